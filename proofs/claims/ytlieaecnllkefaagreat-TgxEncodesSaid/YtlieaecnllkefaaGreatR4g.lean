/- Rows of laws: numbers of 32 and 64 bits; rows of elements of several cells. -/
import Derived.Test.YtlieaecnllkefaaGreatR2g
import Derived.Test.YtlieaecnllkefaaGreatGCg
import Derived.Lib.SmallJoins
import Derived.Deep.Slices
import Derived.Deep.Strs
set_option linter.unusedVariables false
set_option linter.unusedSimpArgs false
set_option maxRecDepth 100000
namespace Go.Proofs.YtlieaecnllkefaaGreat
open Go Go.V Go.ChangeShapes Go.WideShapes Go.ChangeAt Go.RowKit
theorem C9{x:Int}(h:(Lit.int .u32 x).wf=true):0<=x/\x<=4294967295:=by
 have h1:IntKind.u32.min=0:=rfl;have h2:IntKind.u32.max=4294967295:=rfl;simp only[Lit.wf,Bool.and_eq_true,decide_eq_true_eq]at h;omega
theorem nt{α:Type}{p:Nat->α->Prop}:∀ n:Nat,(∀ i,i<n->∃ x,p i x)->∃ l:List α,l.length=n/\∀ i (hi:i<l.length),p i l[i]
 | 0,_=>⟨[],rfl,fun i hi=>absurd hi (by simp)⟩
 | n+1,h=>by
  obtain⟨l,h1,h2⟩:=nt n fun i hi=>h i (by omega);obtain⟨x,hx⟩:=h n (by omega);refine⟨l++[x],by simp[h1],fun i hi=>?_⟩;by_cases e:i<l.length
  ·rw[List.getElem_append_left e];exact h2 i e
  ·have:i=n:=by simp at hi;omega
   subst this;rw[List.getElem_append_right (by omega)];simpa[h1]using hx
theorem tR{α:Type}{W:World}{size:Nat}{C:α->List Value}(hC:∀ x,(C x).length=size):∀(l:List α)(a:Addr),(∀ i (hi:i<l.length) j,j<size->W.cell? (a.add (i*size+j))=(C l[i])[j]?)->aY W (some a) (l.flatMap C)
 | [],a,_=>aY.nil _ _
 | x ::l,a,h=>by
  have ih:=tR hC l (a.add size) fun i hi j hj=>by
   have:=h (i+1) (by simp;omega) j hj;rw[dw,show size+(i*size+j)=(i+1)*size+j by rw[Nat.succ_mul];omega];simpa using this
  intro j u hj;rw[List.flatMap_cons,List.getElem?_append]at hj;split at hj
  ·rename_i KI;rw[hC]at KI;have:=h 0 (by simp) j KI;rw[Nat.zero_mul,Nat.zero_add]at this;exact⟨a,rfl,by rw[this];exact hj⟩
  ·rename_i KI;rw[hC]at KI hj;obtain⟨a',e,q⟩:=ih (j-size) u hj;cases e;refine⟨a,rfl,?_⟩;rw[dw,show size+(j-size)=j by omega]at q;exact q
theorem FH{x:Int}(h:(Lit.int .u64 x).wf=true):0<=x/\x<=18446744073709551615:=by
 have h1:IntKind.u64.min=0:=rfl;have h2:IntKind.u64.max=18446744073709551615:=rfl;simp only[Lit.wf,Bool.and_eq_true,decide_eq_true_eq]at h;omega
end Go.Proofs.YtlieaecnllkefaaGreat

/- Rows of laws: numbers of 32 and 64 bits; rows of elements of several cells. -/
import Derived.Test.YtdlomlmijdifbaaGreatDoorR2g
import Derived.Test.YtdlomlmijdifbaaGreatDoorGCg
import Derived.Lib.SmallJoins
import Derived.Deep.Slices
import Derived.Deep.Strs
set_option linter.unusedVariables false
set_option linter.unusedSimpArgs false
set_option maxRecDepth 100000
namespace Go.Proofs.YtdlomlmijdifbaaGreatDoor
open Go Go.V Go.ChangeShapes Go.WideShapes Go.ChangeAt Go.RowKit
theorem mZ{α:Type}{p:Nat->α->Prop}:∀ n:Nat,(∀ i,i<n->∃ x,p i x)->∃ l:List α,l.length=n/\∀ i (hi:i<l.length),p i l[i]
 | 0,_=>⟨[],rfl,fun i hi=>absurd hi (by simp)⟩
 | n+1,h=>by
  obtain⟨l,h1,h2⟩:=mZ n fun i hi=>h i (by omega);obtain⟨x,hx⟩:=h n (by omega);refine⟨l++[x],by simp[h1],fun i hi=>?_⟩;by_cases e:i<l.length
  ·rw[List.getElem_append_left e];exact h2 i e
  ·have:i=n:=by simp at hi;omega
   subst this;rw[List.getElem_append_right (by omega)];simpa[h1]using hx
theorem uM{α:Type}{W:World}{size:Nat}{C:α->List Value}(hC:∀ x,(C x).length=size):∀(l:List α)(a:Addr),(∀ i (hi:i<l.length) j,j<size->W.cell? (a.add (i*size+j))=(C l[i])[j]?)->bF W (some a) (l.flatMap C)
 | [],a,_=>bF.nil _ _
 | x ::l,a,h=>by
  have ih:=uM hC l (a.add size) fun i hi j hj=>by
   have:=h (i+1) (by simp;omega) j hj;rw[dD,show size+(i*size+j)=(i+1)*size+j by rw[Nat.succ_mul];omega];simpa using this
  intro j u hj;rw[List.flatMap_cons,List.getElem?_append]at hj;split at hj
  ·rename_i EH;rw[hC]at EH;have:=h 0 (by simp) j EH;rw[Nat.zero_mul,Nat.zero_add]at this;exact⟨a,rfl,by rw[this];exact hj⟩
  ·rename_i EH;rw[hC]at EH hj;obtain⟨a',e,q⟩:=ih (j-size) u hj;cases e;refine⟨a,rfl,?_⟩;rw[dD,show size+(j-size)=j by omega]at q;exact q
theorem Bf{x:Int}(h:(Lit.int .u64 x).wf=true):0<=x/\x<=18446744073709551615:=by
 have h1:IntKind.u64.min=0:=rfl;have h2:IntKind.u64.max=18446744073709551615:=rfl;simp only[Lit.wf,Bool.and_eq_true,decide_eq_true_eq]at h;omega
end Go.Proofs.YtdlomlmijdifbaaGreatDoor

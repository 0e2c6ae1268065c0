/- Rows of laws of numbers and slices of numbers: what an argument holds, and what stands behind the call. -/
import Derived.Test.YtlieaecnllkefaaGreatGFg
import Derived.Test.YtlieaecnllkefaaGreatRows
import Derived.WalkKit
import Derived.ProofKit
import Derived.OpenShut
import Derived.Carry
import Derived.SizedLaws
set_option linter.unusedVariables false
set_option maxRecDepth 100000
namespace Go.Proofs.YtlieaecnllkefaaGreat
open Go Go.V Go.ChangeShapes Go.WideShapes Go.ChangeAt Go.RowKit
theorem Ad:ownKnob Tryz.prog.godebug=none:=by kernel_rfl
theorem CJ:laidOutB Tryz.prog=true:=by kernel_rfl
theorem vV{H:Type}{enc:TypeId×Value->H}{W:World}{r:Reach}{b:Nat}{t e:TypeId}{k:IntKind}(ht:P.underlying t=some (.slice e))(he:P.underlying e=some (.int k))(hc:P.cellsOf e=1)
    {v:Value} {d:DataW H} {p:List MemPlace} (hok:Value.okWide P W r b t v) (h:DataW.Trod enc P W 0 (fun _=>true) true t v d p) :
    ∃(A:OA)(n c:Nat)(l:List Int),v=.slice A n c/\n=l.length/\bB W A (l.map (Value.int k))/\∀ x∈l,(Lit.int k x).wf=true:=by
  obtain⟨A,n,c,rfl⟩:=okWide_slice ht hok;obtain⟨fuel,hf⟩:=h;rcases open_ints ht he hc hf with⟨Gl,hx⟩ | ⟨a,len',cap',zs,Gl,_,hl,hm,hz,hx,DO,Qi⟩
  · simp[Value.cells]at Gl;obtain⟨rfl,rfl,rfl⟩:=Gl;exact⟨none,0,0,[],rfl,rfl,bB.nil _ _,by simp⟩
  · simp[Value.cells]at Gl;obtain⟨rfl,rfl,rfl⟩:=Gl;simp only[if_true]at hz;refine⟨some a,n,c,zs.take n,rfl,by simp;omega,?_,fun x hx=>Qi x (List.mem_of_mem_take hx)⟩;intro j u hj;refine⟨a,rfl,?_⟩;have EM:j<n/\j<zs.length:=by
      have:=(List.getElem?_eq_some_iff.1 hj).1;simp at this;omega
    rw[DO j EM.2];have:u=.int k zs[j]:=by
      have h2:=hj;rw[List.getElem?_map,List.getElem?_take_of_lt EM.1,List.getElem?_eq_getElem EM.2]at h2;simpa using h2.symm
    rw[this,List.getD_eq_getElem?_getD,List.getElem?_eq_getElem EM.2];rfl
theorem tu{x:Int}(h:(Lit.int .u8 x).wf=true):0<=x/\x<=255:=by
 have h1:IntKind.u8.min=0:=rfl;have h2:IntKind.u8.max=255:=rfl;simp only[Lit.wf,Bool.and_eq_true,decide_eq_true_eq]at h;omega
theorem ur{H:Type}{enc:TypeId×Value->H}{W W':World}{t:TypeId}(hr:P.readableRec t=true)(Ed:t<P.types.size){v:Value}{d:DataW H}{p:List MemPlace}(h:DataW.Trod enc P W 0 (fun _=>true) true t v d p)(hb:Below W.heap.size W W')(DF:∀ x∈p,x.block<W.heap.size):
    DataW.Trod enc P W' 0 (fun b=>decide (b<W.heap.size)) true t v d p:=Below.trod CJ hr Ed h hb DF
end Go.Proofs.YtlieaecnllkefaaGreat

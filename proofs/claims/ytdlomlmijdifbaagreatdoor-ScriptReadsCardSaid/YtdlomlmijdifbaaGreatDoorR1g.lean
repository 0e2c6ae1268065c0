/- Rows of laws of numbers and slices of numbers: what an argument holds, and what stands behind the call. -/
import Derived.Test.YtdlomlmijdifbaaGreatDoorGFg
import Derived.Test.YtdlomlmijdifbaaGreatDoorRows
import Derived.WalkKit
import Derived.ProofKit
import Derived.OpenShut
import Derived.Carry
import Derived.SizedLaws
set_option linter.unusedVariables false
set_option maxRecDepth 100000
namespace Go.Proofs.YtdlomlmijdifbaaGreatDoor
open Go Go.V Go.ChangeShapes Go.WideShapes Go.ChangeAt Go.RowKit
theorem own:ownKnob Tryz.prog.godebug=none:=by kernel_rfl
theorem CU:laidOutB Tryz.prog=true:=by kernel_rfl
theorem pP{H:Type}{enc:TypeId×Value->H}{W:World}{r:Reach}{b:Nat}{t e:TypeId}{k:IntKind}(ht:P.underlying t=some (.slice e))(he:P.underlying e=some (.int k))(hc:P.cellsOf e=1)
    {v:Value} {d:DataW H} {p:List MemPlace} (Er:Value.okWide P W r b t v) (h:DataW.Trod enc P W 0 (fun _=>true) true t v d p) :
    ∃(A:OA)(n c:Nat)(l:List Int),v=.slice A n c/\n=l.length/\bC W A (l.map (Value.int k))/\∀ x∈l,(Lit.int k x).wf=true:=by
  obtain⟨A,n,c,rfl⟩:=okWide_slice ht Er;obtain⟨fuel,hf⟩:=h;rcases open_ints ht he hc hf with⟨EM,hx⟩ | ⟨a,len',cap',zs,EM,_,hl,hm,hz,hx,D8,Kb⟩
  · simp[Value.cells]at EM;obtain⟨rfl,rfl,rfl⟩:=EM;exact⟨none,0,0,[],rfl,rfl,bC.nil _ _,by simp⟩
  · simp[Value.cells]at EM;obtain⟨rfl,rfl,rfl⟩:=EM;simp only[if_true]at hz;refine⟨some a,n,c,zs.take n,rfl,by simp;omega,?_,fun x hx=>Kb x (List.mem_of_mem_take hx)⟩;intro j u hj;refine⟨a,rfl,?_⟩;have EL:j<n/\j<zs.length:=by
      have:=(List.getElem?_eq_some_iff.1 hj).1;simp at this;omega
    rw[D8 j EL.2];have:u=.int k zs[j]:=by
      have h2:=hj;rw[List.getElem?_map,List.getElem?_take_of_lt EL.1,List.getElem?_eq_getElem EL.2]at h2;simpa using h2.symm
    rw[this,List.getD_eq_getElem?_getD,List.getElem?_eq_getElem EL.2];rfl
theorem Dp{x:Int}(h:(Lit.int .u16 x).wf=true):0<=x/\x<=65535:=by
 have h1:IntKind.u16.min=0:=rfl;have h2:IntKind.u16.max=65535:=rfl;simp only[Lit.wf,Bool.and_eq_true,decide_eq_true_eq]at h;omega
theorem rG{x:Int}(h:(Lit.int .u8 x).wf=true):0<=x/\x<=255:=by
 have h1:IntKind.u8.min=0:=rfl;have h2:IntKind.u8.max=255:=rfl;simp only[Lit.wf,Bool.and_eq_true,decide_eq_true_eq]at h;omega
theorem nE{H:Type}{enc:TypeId×Value->H}{W W':World}{t:TypeId}(hr:P.readableRec t=true)(HW:t<P.types.size){v:Value}{d:DataW H}{p:List MemPlace}(h:DataW.Trod enc P W 0 (fun _=>true) true t v d p)(hb:Below W.heap.size W W')(DL:∀ x∈p,x.block<W.heap.size):
    DataW.Trod enc P W' 0 (fun b=>decide (b<W.heap.size)) true t v d p:=Below.trod CU hr HW h hb DL
end Go.Proofs.YtdlomlmijdifbaaGreatDoor

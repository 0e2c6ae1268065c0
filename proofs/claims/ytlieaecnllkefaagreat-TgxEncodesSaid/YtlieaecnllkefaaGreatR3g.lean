/- Rows of laws of histories and of edges: what such an argument holds. -/
import Derived.Test.YtlieaecnllkefaaGreatR4g
import Derived.Test.YtlieaecnllkefaaGreatGPg
import Derived.Lib.SmallJoins
import Derived.Deep.Slices
import Derived.Deep.Strs
set_option linter.unusedVariables false
set_option linter.unusedSimpArgs false
set_option maxRecDepth 100000
namespace Go.Proofs.YtlieaecnllkefaaGreat
open Go Go.V Go.ChangeShapes Go.WideShapes Go.ChangeAt Go.RowKit
section
variable {H : Type} {enc : TypeId × Value → H} {W : World}
theorem vK{n:Nat}{cs:List Value}{y:DataW H×List MemPlace}(h:DataW.trod enc P W 0 (fun _=>true) true n 45 cs=some y):∃ e:Edge,cs=jn e/\(0<=e.1/\e.1<=4294967295)/\0<=e.2/\e.2<=4294967295:=by
 obtain⟨y0,y1,k,_,hl,h0,h1⟩:=trod_struct2 Tryz.underlying45 h;have c2:P.cellsOf 45=2:=by kernel_rfl
 have c1:P.cellsOf 43=1:=by kernel_rfl
 rw[c2]at hl
 match cs,hl with
 | [a,b],_ =>
  simp only[c1,List.drop_zero,List.take_succ_cons,List.take_zero,List.drop_succ_cons,List.take_nil]at h0 h1;obtain⟨u,e0,_,w0⟩:=DataW.trod_int Tryz.underlying43 h0;obtain⟨v,e1,_,w1⟩:=DataW.trod_int Tryz.underlying43 h1;cases e0;cases e1;exact⟨(u,v),rfl,C9 w0,C9 w1⟩
theorem Dh{n:Nat}{cs:List Value}{y:DataW H×List MemPlace}(h:DataW.trod enc P W 0 (fun _=>true) true n 62 cs=some y):∃ e:aR,cs=mF e/\(0<=e.u/\e.u<=4294967295)/\0<=e.v/\e.v<=4294967295:=by
 obtain⟨y0,y1,y2,k,_,hl,h0,h1,h2⟩:=Go.Deep.trod_struct3 Tryz.underlying62 h;have c4:P.cellsOf 62=4:=by kernel_rfl
 have c2:P.cellsOf 45=2:=by kernel_rfl
 have c1:P.cellsOf 2=1:=by kernel_rfl
 have c0:P.cellsOf 4=1:=by kernel_rfl
 rw[c4]at hl
 match cs,hl with
 | [a,b,c,d],_ =>
  simp only[c0,c1,c2,List.drop_zero,List.take_succ_cons,List.take_zero,List.drop_succ_cons,List.take_nil]at h0 h1 h2;obtain⟨t,e0,_,w0⟩:=DataW.trod_int Tryz.underlying2 h0;obtain⟨e,e1,w1⟩:=vK h1;obtain⟨z,e2,_⟩:=DataW.trod_bool Tryz.underlying4 h2;cases e0;cases e2;simp only[jn,List.cons.injEq,and_true]at e1;obtain⟨rfl,rfl⟩:=e1;exact⟨⟨t,e.1,e.2,z⟩,rfl,w1⟩
theorem FK{n:Nat}{cs:List Value}{y:DataW H×List MemPlace}(h:DataW.trod enc P W 0 (fun _=>true) true n 40 cs=some y):
    ∃(A:OA)(n c:Nat)(l:List Edge),cs=[.slice A n c]/\n=l.length/\n<=c/\(A=none->c=0)/\aY W A (edges l):=by
  rcases Go.Deep.open_slice Tryz.underlying40 h with⟨rfl,_⟩ | ⟨a,len,cap,m,k,D,Pl,rfl,_,hl,_,hm,_,hx⟩
  · exact⟨none,0,0,[],rfl,rfl,by omega,fun _=>rfl,aY.nil _ _⟩
  · rw[if_pos rfl]at hm;have c2:P.cellsOf 45=2:=by kernel_rfl
    rw[c2]at hx;obtain⟨l,OX,Iu⟩:=nt (p:=fun i (e:Edge)=>∀ j,j<2->W.cell? (a.add (i*2+j))=(jn e)[j]?) len fun i hi=>by
      obtain⟨cs',q1,q2⟩:=hx i (by omega);obtain⟨e,rfl,_⟩:=vK q2;obtain⟨_,_,q3⟩:=World.cells?_some q1;exact⟨e,fun j hj=>by rw[← dw];exact q3 j hj⟩
    exact⟨some a,len,cap,l,rfl,OX.symm,hl,fun h=>(by cases h),tR (C:=jn) (fun _=>rfl) l a Iu⟩
theorem Ck{n:Nat}{cs:List Value}{y:DataW H×List MemPlace}(h:DataW.trod enc P W 0 (fun _=>true) true n 23 cs=some y):
    ∃(A:OA)(n c:Nat)(l:List aR),cs=[.slice A n c]/\n=l.length/\n<=c/\(A=none->c=0)/\aY W A (bB l)/\f9 l:=by
  rcases Go.Deep.open_slice Tryz.underlying23 h with⟨rfl,_⟩ | ⟨a,len,cap,m,k,D,Pl,rfl,_,hl,_,hm,_,hx⟩
  · exact⟨none,0,0,[],rfl,rfl,by omega,fun _=>rfl,aY.nil _ _,fun e he=>by simp at he⟩
  · rw[if_pos rfl]at hm;have c4:P.cellsOf 62=4:=by kernel_rfl
    rw[c4]at hx;obtain⟨l,OX,Iu⟩:=nt (p:=fun i (e:aR)=>(∀ j,j<4->W.cell? (a.add (i*4+j))=(mF e)[j]?)/\(0<=e.u/\e.u<=4294967295)/\0<=e.v/\e.v<=4294967295) len fun i hi=>by
      obtain⟨cs',q1,q2⟩:=hx i (by omega);obtain⟨e,rfl,he⟩:=Dh q2;obtain⟨_,_,q3⟩:=World.cells?_some q1;exact⟨e,fun j hj=>by rw[← dw];exact q3 j hj,he⟩
    exact⟨some a,len,cap,l,rfl,OX.symm,hl,fun h=>(by cases h),tR (C:=mF) (fun _=>rfl) l a (fun i hi=>(Iu i hi).1),fun e he=>(by
      obtain⟨i,hi,rfl⟩:=List.mem_iff_getElem.1 he;exact(Iu i hi).2)⟩
end
end Go.Proofs.YtlieaecnllkefaaGreat

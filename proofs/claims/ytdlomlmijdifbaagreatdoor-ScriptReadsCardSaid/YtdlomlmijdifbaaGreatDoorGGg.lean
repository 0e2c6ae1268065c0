/- Own texts, packed: B1, B2, B3, B4, B5. -/
import Derived.Test.YtdlomlmijdifbaaGreatDoorGCg
import Derived.Test.YtdlomlmijdifbaaGreatDoorGFg
import Derived.Test.YtdlomlmijdifbaaGreatDoorGXg
import Derived.Laws.IdiomStrings
set_option linter.unusedVariables false
set_option linter.unusedSimpArgs false
set_option maxHeartbeats 4000000
set_option maxRecDepth 100000
namespace Go.Proofs.YtdlomlmijdifbaaGreatDoor
open Go Go.V Go.RowKit
theorem lZ:kL P 22 5 1 1:=⟨(P.info? 5).getD default,.int .u8 0,by kernel_rfl,by kernel_rfl,by kernel_rfl,by kernel_rfl,by kernel_rfl,by kernel_rfl,by omega⟩
theorem sK:De P 22 5 (.int .u8 0) 1:=⟨(P.info? 5).getD default,by kernel_rfl,by kernel_rfl,by kernel_rfl,by kernel_rfl,by kernel_rfl,by kernel_rfl⟩
abbrev bY(xs:List Int):List Value:=xs.map (Value.int .u8)
abbrev bools(xs:List Bool):List Value:=xs.map Value.bool
theorem iP{w:World}{A:OA}{n c:Nat}{l:List Int}(hr:bC w A (bY l))(hn:n=l.length)(hl:l.length<=2^40):
    Calls P 134 #[.slice A n c] w fun ev w'=>∃(A':OA)(n' c':Nat),ev=.returned (.slice A' n' c')/\aD w' w.heap.size 5 1 A' n' c' (bY l)/\w.grownBy w' none:=by
  apply vc134;dsimp only[VC134,Br,Ap,nb];refine⟨fun h=>?_,fun h=>?_⟩
  · subst h;have:l=[]:=by
      cases l with
      | nil=>rfl
      | cons x l=>obtain⟨a,e,_⟩:=hr 0 _ rfl;cases e
    subst this;exact⟨none,0,0,rfl,aD.nil _ _ _ _,aF _ _⟩
  · obtain⟨a,rfl⟩:∃ a,A=some a:=by cases A with
      | none=>exact absurd rfl h
      | some a=>exact⟨a,rfl⟩
    have hg:=World.grownBy_alloc w (.cells #[] 5) none;have ho:aD (w.alloc (.cells #[] 5)) w.heap.size 5 1 (some ⟨w.heap.size,0,none⟩) 0 0 []:=⟨rfl,.inr ⟨w.heap.size,0,#[],rfl,Nat.le_refl _,heap_alloc_new w _,Nat.le_refl _,Nat.zero_le _,rfl,rfl⟩⟩;obtain⟨A',n',c',w',h1,h2,h3,h4,_⟩:=ho.appends (ty:=22) lZ (by omega) (a:=a) (m:=n) (cc:=c) (us:=bY l) (by simp[hn]) (fun j u hj=>by obtain⟨b,e1,e2⟩:=(hr.kept_none hg) j u hj;cases e1;exact e2) (fun u hu=>by obtain⟨x,_,rfl⟩:=List.mem_map.1 hu;rfl) (by omega) hg.size;exact⟨A',n',c',w',h1,A',n',c',rfl,by simpa using h2,bO hg h4 ho.block_ge⟩
def aO(l:List Int):ByteArray:=l.foldl (fun r n=>r.push (UInt8.ofNat n.toNat)) ByteArray.empty
theorem fI{w:World}{A:OA}{n c:Nat}{l:List Int}(hr:bC w A (bY l))(hn:n=l.length):Sem.run P (Go.convert 22 9 (.slice A n c)) w=.ok (.string (aO l)) w:=by
 rw[run_convert_bytes_string w 22 9 5 A n c (by kernel_rfl) (by kernel_rfl) (by kernel_rfl)];cases A with
 | none =>
  have:l=[]:=by
   cases l with
   | nil=>rfl
   | cons x l=>obtain⟨a,e,_⟩:=hr 0 _ rfl;cases e
  subst this;rfl
 | some a =>
  have hl:=run_loadCells_list (P:=P) w a (bY l) (fun j v hj=>by obtain⟨b,e1,e2⟩:=hr j v hj;cases e1;exact e2);rw[List.length_map,← hn]at hl;exact run_bytesToString w a n c l hl
theorem yC(l:List Int):∀ r:ByteArray,(l.foldl (fun r n=>r.push (UInt8.ofNat n.toNat)) r).data.toList=r.data.toList++l.map fun n=>UInt8.ofNat n.toNat:=by
 induction l with
 | nil=>simp
 | cons x l ih=>intro r;rw[List.foldl_cons,ih];simp[ByteArray.push]
theorem bJ(l:List Int):(aO l).data.toList=l.map fun n=>UInt8.ofNat n.toNat:=by
 rw[aO,yC];rfl
theorem mO{l m:List Int}(hl:∀ x∈l,0<=x/\x<=255)(hm:∀ x∈m,0<=x/\x<=255)(h:aO l=aO m):l=m:=by
 have h1:=bJ l;rw[h,bJ]at h1;have key:∀ x:Int,0<=x/\x<=255->((UInt8.ofNat x.toNat).toNat:Int)=x:=by
  intro x hx;rw[UInt8.toNat_ofNat'];omega
 have h2:=congrArg (List.map fun b:UInt8=>(b.toNat:Int)) h1;rw[List.map_map,List.map_map]at h2;have e:∀ q:List Int,(∀ x∈q,0<=x/\x<=255)->q.map ((fun b:UInt8=>(b.toNat:Int)) ∘ fun n:Int=>UInt8.ofNat n.toNat)=q:=by
  intro q hq
  conv=>rhs;rw[← List.map_id q]
  apply List.map_congr_left;intro x hx;exact key x (hq x hx)
 rw[e l hl,e m hm]at h2;exact h2.symm
theorem xL(a b:ByteArray):(a.toList ==b.toList)=decide (a=b):=by
 rw[ByteArray.toList_eq,ByteArray.toList_eq,Bool.eq_iff_iff,beq_iff_eq,decide_eq_true_iff];constructor
 ·intro h;cases a;cases b;simp at h;rw[h]
 ·intro h;rw[h]
theorem lL(s t:Operand)(x y:ByteArray)(w:World):Sem.run P (do eqGuard .neq 9 s t (.string x) (.string y);Go.binOp .neq 9 (.string x) (.string y):Sem Value) w=.ok (.bool (!decide (x=y))) w:=by
 rw[← xL];simp[eqGuard_at_string,binOp_string_neq]
theorem iE(s t:Operand)(x y:ByteArray)(w:World):Sem.run P (do eqGuard .eql 9 s t (.string x) (.string y);Go.binOp .eql 9 (.string x) (.string y):Sem Value) w=.ok (.bool (decide (x=y))) w:=by
 rw[← xL];simp[eqGuard_at_string,binOp_string_eql]
end Go.Proofs.YtdlomlmijdifbaaGreatDoor

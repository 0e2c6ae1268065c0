/- Own texts, packed: G1, G3, G5, H1, H2, H3, H4, H5, H6, H7, H8, H9, H10, H11. -/
import Derived.Test.YtdlomlmijdifbaaGreatDoorGHg
import Derived.Test.YtdlomlmijdifbaaGreatDoorGFg
import Derived.Test.YtdlomlmijdifbaaGreatDoorGXg
import Derived.Test.YtdlomlmijdifbaaGreatDoorGBg
import Derived.Test.YtdlomlmijdifbaaGreatDoorGGg
import Derived.Lib.SlBytesConst
/-! archipelagolaw6: known; lengths of numbers. -/
set_option linter.unusedVariables false
set_option linter.unusedSimpArgs false
set_option maxHeartbeats 4000000
set_option maxRecDepth 100000
namespace Go.Proofs.YtdlomlmijdifbaaGreatDoor
open Go Go.V Go.RowKit
end Go.Proofs.YtdlomlmijdifbaaGreatDoor
/-! archipelagolaw6.CodeFree: the walk. -/
namespace Go.Proofs.YtdlomlmijdifbaaGreatDoor
open Go Go.V Go.RowKit
theorem CI(s t:Operand)(a b:Bool)(w:World):Sem.run P (do eqGuard .eql 4 s t (.bool a) (.bool b);Go.binOp .eql 4 (.bool a) (.bool b):Sem Value) w=.ok (.bool (a ==b)) w:=by
 cases a <;>cases b <;>kernel_rfl
end Go.Proofs.YtdlomlmijdifbaaGreatDoor
/-! archipelagolaw6.CodeTexts: the walk. -/
namespace Go.V
end Go.V
namespace Go.Proofs.YtdlomlmijdifbaaGreatDoor
open Go Go.V Go.RowKit
end Go.Proofs.YtdlomlmijdifbaaGreatDoor
/-! Numbers in few bytes: lists alone. Plain Lean; no program. -/
namespace Go.V
end Go.V
/-! Numbers in few bytes, counts, bytes held against bytes: both texts. -/
namespace Go.Proofs.YtdlomlmijdifbaaGreatDoor
open Go Go.V Go.RowKit
theorem nV{w:World}{base:Nat}{A:OA}{n c:Nat}{xs:List Int}{x:Int}(ho:aD w base 5 1 A n c (bY xs))(hn:n<=2^39)(hb:base<=w.heap.size):
    ∃ (A':OA) (n' c':Nat) (w':World),Sem.run P (Builtin.append_ #[22,22] 22 #[.slice A n c,.slice (some ⟨w.heap.size,0,none⟩) 1 1]) (w.alloc (.cells #[.int .u8 x] 5))=.ok (.slice A' n' c') w' ∧
      aD w' base 5 1 A' n' c' (bY (xs++[x]))/\w.grownBy w' (Value.slice A n c).ownBlock/\n'=n+1:=by
  have g:=World.grownBy_alloc w (.cells #[.int .u8 x] 5) none;have ro:=fD w #[.int .u8 x] 5;obtain⟨A',n',c',w',h1,h2,h3,h4,_⟩:=(ho.kept g).appends (ty:=22) lZ (by omega) (a:=⟨w.heap.size,0,none⟩) (m:=1) (cc:=1) (us:=bY [x]) rfl (fun j u hj=>by obtain⟨b,q1,q2⟩:=ro j u hj;cases q1;exact q2) (fun u hu=>by simp at hu;rw[hu];rfl) (by omega) (Nat.le_trans hb g.size);exact⟨A',n',c',w',h1,by simpa using h2,aB (zJ g) h4,h3⟩
theorem cA{w:World}{base:Nat}{A B:OA}{n c m d:Nat}{xs ys:List Int}(ho:aD w base 5 1 A n c (bY xs))(hB:bC w B (bY ys))(hm:m=ys.length)(hd:B=none->d=0)(hn:n+m<=2^39)(hb:base<=w.heap.size):
    ∃ (A':OA) (n' c':Nat) (w':World),Sem.run P (Builtin.append_ #[22,22] 22 #[.slice A n c,.slice B m d]) w=.ok (.slice A' n' c') w' ∧
      aD w' base 5 1 A' n' c' (bY (xs++ys))/\w.grownBy w' (Value.slice A n c).ownBlock/\n'=n+m:=by
  cases B with
  | none =>
    have:ys=[]:=by
      cases ys with
      | nil=>rfl
      | cons x l=>obtain⟨a,e,_⟩:=hB 0 _ rfl;cases e
    subst this;have KV:=hd rfl;subst KV;have Ga:m=0:=by simpa using hm
    subst Ga;exact⟨A,n,c,w,ho.appends_nil lZ,by simpa using ho,aF _ _,rfl⟩
  | some a =>
    obtain⟨A',n',c',w',h1,h2,h3,h4,_⟩:=ho.appends (ty:=22) lZ (by omega) (a:=a) (m:=m) (cc:=d) (us:=bY ys) (by simp[hm]) (fun j u hj=>by obtain⟨b,q1,q2⟩:=hB j u hj;cases q1;exact q2) (fun u hu=>by obtain⟨x,_,rfl⟩:=List.mem_map.1 hu;rfl) (by omega) hb;exact⟨A',n',c',w',h1,by simpa using h2,h4,h3⟩
theorem CN{x c:Int}{j:Nat}(h0:0<=x)(hx:x<2^j)(hc:0<=c)(h:x+c*2^j<18446744073709551616):kD .or .u64 x (c*2^j)=x+c*2^j:=by
 obtain⟨n,rfl⟩:∃ n:Nat,x=n:=⟨x.toNat,by omega⟩;obtain⟨m,rfl⟩:∃ n:Nat,c=n:=⟨c.toNat,by omega⟩;have ep:((2^j:Nat):Int)=2^j:=by simp
 have em:((m*2^j:Nat):Int)=(m:Int)*2^j:=by rw[Int.natCast_mul,ep]
 rw[← em]at h ⊢;have e1:(BitVec.ofInt 64 (n:Int)).toNat=n:=sC (by omega);have e2:(BitVec.ofInt 64 ((m*2^j:Nat):Int)).toNat=m*2^j:=sC (by omega);show IntKind.u64.wrap (((BitVec.ofInt 64 (n:Int) ||| BitVec.ofInt 64 ((m*2^j:Nat):Int)).toNat:Nat):Int)=_;rw[BitVec.toNat_or,e1,e2,Dv (by omega)];rw[dP (k:=.u64) (show 0<=_/\_<=(18446744073709551615:Int) by omega)];omega
end Go.Proofs.YtdlomlmijdifbaaGreatDoor
/-! Bytes in fewer ones: lists alone. -/
namespace Go.Proofs.YtdlomlmijdifbaaGreatDoor
open Go Go.V Go.RowKit
abbrev aN(b:List Int):Prop:=∀ x∈b,0<=x/\x<=255
end Go.Proofs.YtdlomlmijdifbaaGreatDoor
/-! Bytes in fewer ones: no text begins as another. -/
namespace Go.Proofs.YtdlomlmijdifbaaGreatDoor
open Go Go.V Go.RowKit
end Go.Proofs.YtdlomlmijdifbaaGreatDoor
/-! huff.Put: the walk. -/
namespace Go.Proofs.YtdlomlmijdifbaaGreatDoor
open Go Go.V Go.RowKit
theorem vY{w:World}{b b' s s' n c n' c':Nat}{e e':TypeId}{A A':OA}{xs xs':List Value}(h:aD w b e s A n c xs)(h':aD w b' e' s' A' n' c' xs')(ne:e≠e'):(Value.slice A n c).ownBlock=none∨(Value.slice A n c).ownBlock≠(Value.slice A' n' c').ownBlock:=by
 cases hk:(Value.slice A n c).ownBlock with
 | none=>exact .inl rfl
 | some k =>
  refine .inr fun hq=>?_;obtain⟨c1,h1⟩:=h.block_type k hk;obtain⟨c2,h2⟩:=h'.block_type k hq.symm;rw[h1]at h2;cases h2;exact ne rfl
theorem mR{w:World}{b s n c:Nat}{e:TypeId}{A:OA}{xs:List Value}(h:aD w b e s A n c xs):A=none->c=0:=by
 obtain⟨_,⟨_,_,e,_⟩ | ⟨g,cur,e,_⟩⟩:=h.cases
 ·exact fun _=>e
 ·intro q;rw[q]at e;cases e
end Go.Proofs.YtdlomlmijdifbaaGreatDoor
/-! archipelagoref5.Put: the walk. -/
namespace Go.Proofs.YtdlomlmijdifbaaGreatDoor
open Go Go.V Go.RowKit
end Go.Proofs.YtdlomlmijdifbaaGreatDoor
/-! The readers' heads: numbers and lengths: the walks. -/
namespace Go.Proofs.YtdlomlmijdifbaaGreatDoor
open Go Go.V Go.RowKit
theorem BI(l:List Int)(k:Nat):(bY l).drop k=bY (l.drop k):=by simp
theorem uL{w:World}{A:OA}{c k:Nat}{l:List Int}(h:bC w A (bY l))(hc:l.length<=c):bC w (bN A c k 1) (bY (l.drop k)):=by
 unfold bN;split
 ·rename_i Eh;rw[List.drop_eq_nil_of_le (by omega)];intro j u hj;simp at hj
 ·have:=h.drop (k*1);rw[Nat.mul_one,BI]at this;rw[Nat.mul_one];exact this
theorem cH{w w':World}{S:Nat->Prop}{g j:Nat}{u:Value}(h:Kp w w' S)(hS:S g):Kp w (w'.setCell ⟨g,j,none⟩ u) S:=h.set (p:=⟨g,j,none⟩) (.inr hS) u
end Go.Proofs.YtdlomlmijdifbaaGreatDoor
/-! archipelagoref5's lengths: the walk. -/
namespace Go.Proofs.YtdlomlmijdifbaaGreatDoor
open Go Go.V Go.RowKit
end Go.Proofs.YtdlomlmijdifbaaGreatDoor
/-! huff.Read: the walk. -/
namespace Go.Proofs.YtdlomlmijdifbaaGreatDoor
open Go Go.V Go.RowKit
end Go.Proofs.YtdlomlmijdifbaaGreatDoor
/-! archipelagoref5.Read: the walk. -/
namespace Go.Proofs.YtdlomlmijdifbaaGreatDoor
open Go Go.V Go.RowKit
end Go.Proofs.YtdlomlmijdifbaaGreatDoor
/-! archipelagolaw7: texts, what is known. -/
namespace Go.Proofs.YtdlomlmijdifbaaGreatDoor
open Go Go.V Go.RowKit
theorem yP(w:World)(cs:Array Value)(t:TypeId)(fr:Nat×Nat):bC (w.alloc (.cells cs t fr)) (some ⟨w.heap.size,0,none⟩) cs.toList:=by
 intro j u hj;refine⟨_,rfl,?_⟩;rw[aJ];have:(w.alloc (.cells cs t fr)).heap[w.heap.size]?=some (.cells cs t fr):=by
  show(w.heap.push _)[w.heap.size]?=_;simp
 rw[aA this];simpa using hj
theorem xH(w:World)(C:Array Value)(n c:Nat):Sem.run P (Go.convert 22 22 (.slice (some ⟨w.heap.size,0,none⟩) n c)) (w.alloc (.cells C 5))=.ok (.slice (some ⟨w.heap.size,0,none⟩) n c) (w.alloc (.cells C 5 (C.size,C.size+1))) :=
 Lib.run_convert_bytes_const (P:=P) w 22 5 C n c (by kernel_rfl) (by kernel_rfl)
theorem pO{w:World}{b s n c:Nat}{e:TypeId}{A:OA}{xs:List Value}(h:aD w b e s A n c xs):n<=c:=by
 obtain⟨_,⟨_,e1,e2,_⟩ | ⟨g,cur,_,_,_,e,_⟩⟩:=h.cases
 ·omega
 ·exact e
end Go.Proofs.YtdlomlmijdifbaaGreatDoor

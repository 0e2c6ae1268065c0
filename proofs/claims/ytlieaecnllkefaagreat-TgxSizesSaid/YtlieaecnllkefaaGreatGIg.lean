/- Own texts, packed: G1, G3, G5, H1, H2, H3, H4, H5, H6, H7, H8, H9, H10, H11. -/
import Derived.Test.YtlieaecnllkefaaGreatGHg
import Derived.Test.YtlieaecnllkefaaGreatGFg
import Derived.Test.YtlieaecnllkefaaGreatGXg
import Derived.Test.YtlieaecnllkefaaGreatGBg
import Derived.Test.YtlieaecnllkefaaGreatGGg
import Derived.Lib.SlBytesConst
/-! archipelagolaw6: known; lengths of numbers. -/
namespace Go.Proofs.YtlieaecnllkefaaGreat
open Go Go.V Go.RowKit
set_option linter.unusedVariables false
set_option linter.unusedSimpArgs false
set_option maxHeartbeats 4000000
set_option maxRecDepth 100000
theorem qac{w:World}{A:Option Addr}{n c:Nat}{l:List Int}(hr:Row w A (u8s l))(hn:n=l.length)(hA:∀ a,A=some a->l=[]∨a.block<w.heap.size):
    Calls P 123 #[.slice A n c] w fun ev w'=>ev=.returned (.pointer (some ⟨w.heap.size,0,none⟩))/\yg w' w.heap.size A n c l 0/\w.grownBy w' none:=by
  apply vc123;dsimp only[VC123,Wt,Br,Bb,Rd,Rc,Rs,Ix,rI_,rB_,rS_]
  have g:=World.grownBy_alloc w (.cells #[.slice A n c,.int .i64 0] 240) none
  exact⟨rfl,⟨by simpa using heap_alloc_new w (.cells #[.slice A n c,.int .i64 0] 240),hr.kept_none g,hn,by omega,fun a ha=>(hA a ha).imp id (fun h=>by omega)⟩,g⟩
end Go.Proofs.YtlieaecnllkefaaGreat
/-! archipelagolaw6.CodeFree: the walk. -/
namespace Go.Proofs.YtlieaecnllkefaaGreat
open Go Go.V Go.RowKit
set_option linter.unusedVariables false
set_option linter.unusedSimpArgs false
set_option maxHeartbeats 4000000
set_option maxRecDepth 100000
theorem qp3(s t:Operand)(a b:Bool)(w:World):Sem.run P (do eqGuard .eql 4 s t (.bool a) (.bool b);Go.binOp .eql 4 (.bool a) (.bool b):Sem Value) w=.ok (.bool (a ==b)) w:=by
 cases a <;>cases b <;>kernel_rfl
end Go.Proofs.YtlieaecnllkefaaGreat
/-! archipelagolaw6.CodeTexts: the walk. -/
namespace Go.V
def vu(ls:List Int)(ss:List Nat):List Bool:=ss.flatMap fun s=>dl (cd ls s) (ln ls s).toNat
theorem qgz(ls:List Int)(a b:List Nat):vu ls (a++b)=vu ls a++vu ls b:=by simp[vu]
theorem mq(ls:List Int)(a:Nat)(b:List Nat):vu ls (a ::b)=dl (cd ls a) (ln ls a).toNat++vu ls b:=by simp[vu]
def qja(ls:List Int)(ss:List Nat):Int:=(ss.map (ln ls)).sum
theorem qaq{ls:List Int}(h:cl ls=true)(ss:List Nat):((vu ls ss).length:Int)=qja ls ss:=by
 induction ss with
 | nil=>rfl
 | cons a ss ih =>
  have:=(gg h).2.1 a
  rw[mq,List.length_append,er]
  simp only[qja,List.map_cons,List.sum_cons]at ih ⊢
  omega
theorem zu{ls:List Int}(h:cl ls=true)(ss:List Nat):0<=qja ls ss/\qja ls ss<=15*(ss.length:Int):=by
 induction ss with
 | nil=>simp[qja]
 | cons a ss ih =>
  have:=(gg h).2.1 a
  simp only[qja,List.map_cons,List.sum_cons,List.length_cons]at ih ⊢
  omega
end Go.V
namespace Go.Proofs.YtlieaecnllkefaaGreat
open Go Go.V Go.RowKit
set_option linter.unusedVariables false
set_option linter.unusedSimpArgs false
set_option maxHeartbeats 4000000
set_option maxRecDepth 100000
end Go.Proofs.YtlieaecnllkefaaGreat
/-! Numbers in few bytes: lists alone. Plain Lean; no program. -/
namespace Go.V
set_option linter.unusedVariables false
set_option linter.unusedSimpArgs false
def fk(v:Nat):List Int:=if v<128 then [(v:Int)] else((v % 128+128:Nat):Int) ::fk (v / 128)
termination_by v
decreasing_by omega
theorem mh{v:Nat}(h:v<128):fk v=[(v:Int)]:=by unfold fk;rw[if_pos h]
theorem ur{v:Nat}(h:¬ v<128):fk v=((v % 128+128:Nat):Int) ::fk (v / 128):=by rw[fk,if_neg h]
theorem jb(v:Nat):∀ x∈fk v,0<=x/\x<=255:=by
 induction v using Nat.strongRecOn with
 | _ v ih =>
  by_cases h:v<128
  ·rw[mh h];intro x hx;have:x=(v:Int):=by simpa using hx
   omega
  ·rw[ur h]
   intro x hx
   rcases List.mem_cons.1 hx with e | e
   ·omega
   ·exact ih _ (by omega) x e
theorem uq(v:Nat):0<(fk v).length:=by
 by_cases h:v<128
 ·rw[mh h];simp
 ·rw[ur h];simp
def my(most:Int):List Int->Nat->Int->Int×Nat×Int
 | [],_,_=>(0,0,20)
 | c ::r,i,v=>if(i=9/\c>1)∨(i>0/\c=0) then(0,0,21) else
  if c≥128 then my most r (i+1) (v+c % 128*2^(7*i)) else if v+c % 128*2^(7*i)>most then(0,0,22) else(v+c % 128*2^(7*i),i+1,0)
def d9(most:Int)(b:List Int):Int×Nat×Int:=my most b 0 0
theorem qk9(most:Int)(rest:List Int):∀(n i:Nat)(v:Int),(0<i->0<n)->n*2^(7*i)<2^64->v+n*2^(7*i)<=most->my most (fk n++rest) i v=(v+n*2^(7*i),i+(fk n).length,0):=by
 intro n
 induction n using Nat.strongRecOn with
 | _ n ih =>
  intro i v hpos hfit hm
  have hp:0<2^(7*i):=Nat.two_pow_pos _
  by_cases h:n<128
  ·rw[mh h]
   show my most ((n:Int) ::rest) i v=_
   unfold my
   have h9:¬ ((i=9/\(n:Int)>1)∨(i>0/\(n:Int)=0)):=by
    rintro(⟨e,e2⟩ | ⟨e,e2⟩)
    ·subst e
     have:2*2^(7*9)<=n*2^(7*9):=Nat.mul_le_mul_right _ (by omega)
     omega
    ·have:=hpos e;omega
   have hmod:(n:Int) % 128=(n:Int):=by omega
   rw[if_neg h9,if_neg (by omega),hmod,if_neg (by omega)]
   simp
  ·rw[ur h]
   show my most (((n % 128+128:Nat):Int) ::(fk (n / 128)++rest)) i v=_
   unfold my
   have h9:¬ ((i=9/\((n % 128+128:Nat):Int)>1)∨(i>0/\((n % 128+128:Nat):Int)=0)):=by
    rintro(⟨e,e2⟩ | ⟨e,e2⟩)
    ·subst e
     have:128*2^(7*9)<=n*2^(7*9):=Nat.mul_le_mul_right _ (by omega)
     omega
    ·omega
   have hmod:((n % 128+128:Nat):Int) % 128=((n % 128:Nat):Int):=by omega
   rw[if_neg h9,if_pos (by omega),hmod]
   have e1:2^(7*(i+1))=128*2^(7*i):=by rw[show 7*(i+1)=7*i+7 by omega,Nat.pow_add];omega
   have e1':(2:Int)^(7*(i+1))=128*2^(7*i):=by rw[show 7*(i+1)=7*i+7 by omega,Int.pow_add];omega
   have e2:n / 128*(128*2^(7*i))+n % 128*2^(7*i)=n*2^(7*i):=by
    rw[← Nat.mul_assoc,← Nat.add_mul];congr 1;omega
   have e3:v+((n % 128:Nat):Int)*2^(7*i)+((n / 128:Nat):Int)*2^(7*(i+1))=v+(n:Int)*2^(7*i):=by
    rw[e1',← Int.mul_assoc,Int.add_assoc,← Int.add_mul];congr 2;omega
   rw[ih (n / 128) (by omega) (i+1) _ (fun _=>by omega) (by rw[e1];omega) (by rw[e3];exact hm),e3]
   simp;omega
theorem ij{most:Int}{n:Nat}(h:(n:Int)<=most)(h64:n<2^64)(rest:List Int):d9 most (fk n++rest)=((n:Int),(fk n).length,0):=by
 have:=qk9 most rest n 0 0 (by omega) (by simpa using h64) (by simpa using h)
 simpa[d9]using this
theorem qhm (most:Int):∀(b:List Int)(i:Nat)(v:Int),(∀ x∈b,0<=x)->0<=v →
    ((my most b i v).2.2=0/\i<(my most b i v).2.1/\(my most b i v).2.1<=i+b.length/\0<=(my most b i v).1/\(my most b i v).1<=most)∨((my most b i v).2.2≠0/\(my most b i v).2.1=0/\(my most b i v).1=0)
  | [],i,v,_,_=>.inr ⟨by simp[my],rfl,rfl⟩
  | c ::r,i,v,h,hv=>by
    have hc:=h c (by simp)
    have hm:0<=c % 128*2^(7*i):=Int.mul_nonneg (Int.emod_nonneg _ (by omega)) (Int.le_of_lt (fg _))
    unfold my
    split
    · exact .inr ⟨by simp,rfl,rfl⟩
    · split
      · rcases qhm most r (i+1) (v+c % 128*2^(7*i)) (fun x hx=>h x (by simp[hx])) (by omega)with⟨e1,e2,e3,e4⟩ | e
        · exact .inl ⟨e1,by omega,by simp;omega,e4⟩
        · exact .inr e
      · split
        · exact .inr ⟨by simp,rfl,rfl⟩
        · exact .inl ⟨rfl,by simp,by simp,by simp;omega,by simp;omega⟩
theorem mw{most:Int}{b:List Int}(h:∀ x∈b,0<=x):((d9 most b).2.2=0/\0<(d9 most b).2.1/\(d9 most b).2.1<=b.length/\0<=(d9 most b).1/\(d9 most b).1<=most)∨((d9 most b).2.2≠0/\(d9 most b).2.1=0/\(d9 most b).1=0):=by
 have:=qhm most b 0 0 h (by omega)
 simpa[d9]using this
end Go.V
/-! Numbers in few bytes, counts, bytes held against bytes: both texts. -/
namespace Go.Proofs.YtlieaecnllkefaaGreat
open Go Go.V Go.RowKit
set_option linter.unusedVariables false
set_option linter.unusedSimpArgs false
set_option maxHeartbeats 4000000
set_option maxRecDepth 100000
abbrev qpn(xs:List Nat):List Value:=xs.map fun x:Nat=>Value.int .u64 (x:Int)
theorem je{w:World}{base:Nat}{A:Option Addr}{n c:Nat}{xs:List Int}{x:Int}(ho:am w base 5 1 A n c (u8s xs))(hn:n<=2^39)(hb:base<=w.heap.size):
    ∃ (A':Option Addr) (n' c':Nat) (w':World),Sem.run P (Builtin.append_ #[26,26] 26 #[.slice A n c,.slice (some ⟨w.heap.size,0,none⟩) 1 1]) (w.alloc (.cells #[.int .u8 x] 5))=.ok (.slice A' n' c') w' ∧
      am w' base 5 1 A' n' c' (u8s (xs++[x]))/\w.grownBy w' (Value.slice A n c).ownBlock/\n'=n+1:=by
  have g:=World.grownBy_alloc w (.cells #[.int .u8 x] 5) none
  have ro:=ey w #[.int .u8 x] 5
  obtain⟨A',n',c',w',h1,h2,h3,h4,_⟩:=(ho.kept g).appends (ty:=26) ve (by omega) (a:=⟨w.heap.size,0,none⟩) (m:=1) (cc:=1) (us:=u8s [x]) rfl (fun j u hj=>by obtain⟨b,q1,q2⟩:=ro j u hj;cases q1;exact q2) (fun u hu=>by simp at hu;rw[hu];rfl) (by omega) (Nat.le_trans hb g.size)
  exact⟨A',n',c',w',h1,by simpa using h2,ab (bq g) h4,h3⟩
theorem bk{w:World}{base:Nat}{A B:Option Addr}{n c m d:Nat}{xs ys:List Int}(ho:am w base 5 1 A n c (u8s xs))(hB:Row w B (u8s ys))(hm:m=ys.length)(hd:B=none->d=0)(hn:n+m<=2^39)(hb:base<=w.heap.size):
    ∃ (A':Option Addr) (n' c':Nat) (w':World),Sem.run P (Builtin.append_ #[26,26] 26 #[.slice A n c,.slice B m d]) w=.ok (.slice A' n' c') w' ∧
      am w' base 5 1 A' n' c' (u8s (xs++ys))/\w.grownBy w' (Value.slice A n c).ownBlock/\n'=n+m:=by
  cases B with
  | none =>
    have:ys=[]:=by
      cases ys with
      | nil=>rfl
      | cons x l=>obtain⟨a,e,_⟩:=hB 0 _ rfl;cases e
    subst this
    have hd0:=hd rfl
    subst hd0
    have hm0:m=0:=by simpa using hm
    subst hm0
    exact⟨A,n,c,w,ho.appends_nil ve,by simpa using ho,af _ _,rfl⟩
  | some a =>
    obtain⟨A',n',c',w',h1,h2,h3,h4,_⟩:=ho.appends (ty:=26) ve (by omega) (a:=a) (m:=m) (cc:=d) (us:=u8s ys) (by simp[hm]) (fun j u hj=>by obtain⟨b,q1,q2⟩:=hB j u hj;cases q1;exact q2) (fun u hu=>by obtain⟨x,_,rfl⟩:=List.mem_map.1 hu;rfl) (by omega) hb
    exact⟨A',n',c',w',h1,by simpa using h2,h4,h3⟩
theorem or128:∀ x:Nat,x<256->x ||| 128=x % 128+128:=by decide +kernel
theorem qm3(v:Nat):bop .or .u8 (((v % 256:Nat)):Int) 128=((v % 128+128:Nat):Int):=by
 have e1:(BitVec.ofInt 8 ((v % 256:Nat):Int)).toNat=v % 256:=cq (by omega)
 have e2:(BitVec.ofInt 8 ((128:Nat):Int)).toNat=128:=cq (by omega)
 show IntKind.u8.wrap (((BitVec.ofInt 8 ((v % 256:Nat):Int) ||| BitVec.ofInt 8 ((128:Nat):Int)).toNat:Nat):Int)=_
 rw[BitVec.toNat_or,e1,e2,or128 _ (by omega),show v % 256 % 128=v % 128 by omega]
 exact gi (k:=.u8) (show 0<=_/\_<=(255:Int) by omega)
theorem qpg(v:Nat):IntKind.u8.wrap (v:Int)=((v % 256:Nat):Int):=by
 show((v:Int) % 2^8)=_
 omega
theorem qnc{v:Int}(h:0<=v/\v<=255):bop .and .u8 v 127=v % 128:=by
 obtain⟨n,rfl⟩:∃ n:Nat,v=n:=⟨v.toNat,by omega⟩
 have e1:(BitVec.ofInt 8 (n:Int)).toNat=n:=cq (by omega)
 have e2:(BitVec.ofInt 8 ((127:Nat):Int)).toNat=127:=cq (by omega)
 show IntKind.u8.wrap (((BitVec.ofInt 8 (n:Int) &&& BitVec.ofInt 8 ((127:Nat):Int)).toNat:Nat):Int)=_
 rw[BitVec.toNat_and,e1,e2,show(127:Nat)=2^7-1 from rfl,Nat.and_two_pow_sub_one_eq_mod]
 rw[gi (k:=.u8) (show 0<=_/\_<=(255:Int) by omega)]
 omega
theorem qge{x c:Int}{j:Nat}(h0:0<=x)(hx:x<2^j)(hc:0<=c)(h:x+c*2^j<18446744073709551616):bop .or .u64 x (c*2^j)=x+c*2^j:=by
 obtain⟨n,rfl⟩:∃ n:Nat,x=n:=⟨x.toNat,by omega⟩
 obtain⟨m,rfl⟩:∃ n:Nat,c=n:=⟨c.toNat,by omega⟩
 have ep:((2^j:Nat):Int)=2^j:=by simp
 have em:((m*2^j:Nat):Int)=(m:Int)*2^j:=by rw[Int.natCast_mul,ep]
 rw[← em]at h ⊢
 have e1:(BitVec.ofInt 64 (n:Int)).toNat=n:=cq (by omega)
 have e2:(BitVec.ofInt 64 ((m*2^j:Nat):Int)).toNat=m*2^j:=cq (by omega)
 show IntKind.u64.wrap (((BitVec.ofInt 64 (n:Int) ||| BitVec.ofInt 64 ((m*2^j:Nat):Int)).toNat:Nat):Int)=_
 rw[BitVec.toNat_or,e1,e2,qh5 (by omega)]
 rw[gi (k:=.u64) (show 0<=_/\_<=(18446744073709551615:Int) by omega)]
 omega
def cv(l:List Nat):List Int:=l.flatMap fk
theorem qc5(v:Nat)(k:Nat):v<2^(7*k)->0<k->(fk v).length<=k:=by
 induction k generalizing v with
 | zero=>intro _ h;omega
 | succ k ih =>
  intro h _
  by_cases hv:v<128
  ·rw[mh hv];simp
  ·rw[ur hv,List.length_cons]
   have:0<k:=by
    rcases Nat.eq_zero_or_pos k with e | e
    ·subst e;simp at h;omega
    ·exact e
   have:=ih (v / 128) (by
    rw[show 7*(k+1)=7*k+7 by omega,Nat.pow_add]at h
    exact Nat.div_lt_of_lt_mul (by omega)) this
   omega
theorem dh{v:Nat}(h:v<2^64):(fk v).length<=10:=qc5 v 10 (Nat.lt_of_lt_of_le h (by decide)) (by omega)
theorem zz{l:List Nat}(h:∀ x∈l,x<2^64):(cv l).length<=10*l.length:=by
 induction l with
 | nil=>simp[cv]
 | cons x l ih =>
  have h1:=dh (h x (by simp))
  have h2:=ih (fun y hy=>h y (by simp[hy]))
  simp only[cv,List.flatMap_cons,List.length_append,List.length_cons]at h2 ⊢
  omega
theorem kb {w:World} {A:Option Addr} {n c:Nat} {l:List Nat} (hr:Row w A (qpn l)) (hn:n=l.length) (hb:∀ x∈l,x<2^64) (hl:n<=2^20) :
    Calls P 70 #[.slice A n c] w fun ev w'=>∃(A':Option Addr)(n' c':Nat),ev=.returned (.slice A' n' c')/\am w' w.heap.size 5 1 A' n' c' (u8s (cv l))/\w.grownBy w' none:=by
  apply vc70;dsimp only[VC70,Wt,Br,Bb,Rd,Rc,Rs,Ix,rI_,rB_,rS_]
  try simp only[InK]
  refine⟨fun m Ao no co i w1=>∃ j:Nat,i=(j:Int)/\j<=l.length/\m=l.length-j/\am w1 w.heap.size 5 1 Ao no co (u8s (cv (l.take j)))/\w.grownBy w1 none,⟨_,0,rfl,by omega,rfl,am.nil _ _ _ _,af _ _⟩,?_⟩
  rintro m Ao no co i w1 ⟨j,rfl,hj,rfl,ho,hg⟩
  have tj:(j:Int).toNat=j:=by omega
  rw[tj]
  refine⟨fun hlt=>?_,fun hge=>?_⟩
  · have lj:j<l.length:=by omega
    obtain⟨a,ha1,ha2⟩:=(hr.kept_none hg) j (.int .u64 (l[j]:Int)) (by simp[lj])
    have hx:=hb _ (List.getElem_mem lj)
    have hpl:=zz (l:=l.take j) (fun x hx=>hb x (List.mem_of_mem_take hx))
    have hlj:(l.take j).length=j:=by simp;omega
    have hx10:=dh hx
    refine⟨a,ha1,by omega,by omega,_,ha2,?_⟩
    refine⟨fun m Ao no co v w2=>∃(u:Nat)(bs:List Int),v=(u:Int)/\m=u/\u<2^64/\bs++fk u=fk l[j]/\am w2 w.heap.size 5 1 Ao no co (u8s (cv (l.take j)++bs))/\w.grownBy w2 none,⟨_,l[j],[],rfl,rfl,hx,rfl,by simpa using ho,hg⟩,?_⟩
    rintro m Ao no co v w2 ⟨u,bs,rfl,hmu,hu,hbs,ho2,hg2⟩
    subst hmu
    have hbl:bs.length<=10:=by
      have:=congrArg List.length hbs
      rw[List.length_append]at this;omega
    have hno:no=(cv (l.take j)++bs).length:=by have:=ho2.cases.1;rw[List.length_map]at this;omega
    have hno2:no<=2^39:=by rw[hno,List.length_append];omega
    refine⟨fun hge=>?_,fun hlt2=>?_⟩
    · have h128:¬ m<128:=by omega
      rw[qpg,qm3]
      obtain⟨A3,n3,c3,w3,e1,e2,e3,_⟩:=je (x:=((m % 128+128:Nat):Int)) ho2 hno2 hg2.size
      refine⟨A3,n3,c3,w3,e1,by omega,m / 128,by omega,m / 128,bs++[((m % 128+128:Nat):Int)],by omega,rfl,by omega,?_,by simpa using e2,ax hg2 e3 ho2.block_ge⟩
      rw[← hbs,ur h128];simp
    · have h128:m<128:=by omega
      obtain⟨A3,n3,c3,w3,e1,e2,e3,_⟩:=je (x:=(m:Int)) ho2 hno2 hg2.size
      refine⟨by omega,A3,n3,c3,w3,e1,by omega,l.length-(j+1),by omega,j+1,by omega,by omega,rfl,?_,ax hg2 e3 ho2.block_ge⟩
      have:cv (l.take (j+1))=cv (l.take j)++bs++[(m:Int)]:=by
        rw[mh h128]at hbs
        rw[List.take_succ_eq_append_getElem lj,cv,List.flatMap_append,List.append_assoc,hbs]
        simp[cv]
      rw[this];exact e2
  · have:j=l.length:=by omega
    subst this
    rw[List.take_length]at ho
    exact⟨_,_,_,rfl,ho,hg⟩
abbrev qpr(t:Int×Nat×Int):Value:=.tuple #[.int .u64 t.1,.int .i64 (t.2.1:Int),.int .i64 t.2.2]
theorem qjg{i:Nat}(h:i<=9):(0:Int)<2^(7*i)/\(2:Int)^(7*i)<=2^63:=by
 have e1:((2^(7*i):Nat):Int)=2^(7*i):=by simp
 have:=Nat.pow_le_pow_right (n:=2) (by omega) (show 7*i<=63 by omega)
 have:=Nat.two_pow_pos (7*i)
 omega
theorem vstep{v c:Int}{i:Nat}(hi:i<=9)(hc:0<=c/\c<=255)(h9:i=9->c<=1)(hv:0<=v/\v<2^(7*i)):bop .or .u64 v (c % 128*2^(7*i))=v+c % 128*2^(7*i)/\0<=c % 128*2^(7*i)/\c % 128*2^(7*i)<=18446744073709551615/\v+c % 128*2^(7*i)<2^(7*(i+1)):=by
 obtain⟨p1,p2⟩:=qjg hi
 have hm:0<=c % 128/\c % 128<=127:=by omega
 have h0:0<=c % 128*2^(7*i):=Int.mul_nonneg hm.1 (Int.le_of_lt p1)
 have hle:c % 128*2^(7*i)<=127*2^(7*i):=Int.mul_le_mul_of_nonneg_right hm.2 (Int.le_of_lt p1)
 have e1:(2:Int)^(7*(i+1))=128*2^(7*i):=by rw[show 7*(i+1)=7*i+7 by omega,Int.pow_add];omega
 have hb:v+c % 128*2^(7*i)<18446744073709551616:=by
  by_cases h:i=9
  ·subst h
   have:=h9 rfl
   have hc1:c % 128<=1:=by omega
   have:c % 128*2^(7*9)<=1*2^(7*9):=Int.mul_le_mul_of_nonneg_right hc1 (by decide)
   have e:(2:Int)^(7*9)=9223372036854775808:=by decide
   rw[e]at this hv ⊢
   omega
  ·have h8:i<=8:=by omega
   have e2:((2^(7*i):Nat):Int)=2^(7*i):=by simp
   have:=Nat.pow_le_pow_right (n:=2) (by omega) (show 7*i<=56 by omega)
   omega
 exact⟨qge hv.1 hv.2 hm.1 hb,h0,by omega,by rw[e1];omega⟩
theorem rv {w:World} {A:Option Addr} {n c:Nat} {b:List Int} {most:Int} (hr:Row w A (u8s b)) (hn:n=b.length) (hb:∀ x∈b,0<=x/\x<=255) (hl:n<=2^40) :
    Calls P 120 #[.slice A n c,.int .u64 most] w fun ev w'=>ev=.returned (qpr (d9 most b))/\w.grownBy w' none:=by
  apply vc120;dsimp only[VC120,Wt,Br,Bb,Rd,Rc,Rs,Ix,rI_,rB_,rS_]
  try simp only[InK]
  refine⟨fun m v i w1=>∃ j:Nat,i=(j:Int)/\j<=b.length/\m=b.length-j/\j<=9/\0<=v/\v<2^(7*j)/\d9 most b=my most (b.drop j) j v/\w.grownBy w1 none,⟨_,0,rfl,by omega,rfl,by omega,by omega,by simp,rfl,af _ _⟩,?_⟩
  rintro m v i w1 ⟨j,rfl,hj,rfl,hj9,hv0,hv1,htk,hg⟩
  have tj:(j:Int).toNat=j:=by omega
  have t7:(7*(j:Int)).toNat=7*j:=by omega
  have m64:min (7*j) 64=7*j:=by omega
  rw[tj,t7,m64]
  refine⟨fun hlt=>?_,fun hge=>?_⟩
  · have lj:j<b.length:=by omega
    obtain⟨a,ha1,ha2⟩:=(hr.kept_none hg) j (.int .u8 b[j]) (by simp[lj])
    have hc:=hb _ (List.getElem_mem lj)
    rw[List.drop_eq_getElem_cons lj]at htk
    rw[my]at htk
    refine⟨a,ha1,by omega,by omega,_,ha2,fun q w2=>w2=w1/\(q=true↔(j=9/\b[j]>1)∨(j>0/\b[j]=0)),⟨fun h9=>⟨fun h1=>⟨rfl,by simp;omega⟩,fun h1=>⟨fun h0=>⟨rfl,by simp;omega⟩,fun h0=>⟨rfl,by simp;omega⟩⟩⟩,fun h9=>⟨fun h0=>⟨rfl,by simp;omega⟩,fun h0=>⟨rfl,by simp;omega⟩⟩⟩,?_⟩
    rintro q w2 ⟨rfl,hq⟩
    refine⟨fun h=>⟨?_,hg⟩,fun h=>?_⟩
    · rw[if_pos (hq.1 h)]at htk
      rw[htk];rfl
    · have hnq:¬ ((j=9/\b[j]>1)∨(j>0/\b[j]=0)):=fun e=>by rw[hq.2 e]at h;cases h
      rw[if_neg hnq]at htk
      rw[qnc hc]
      obtain⟨s1,s2,s3,s4⟩:=vstep hj9 hc (fun e=>by omega) ⟨hv0,hv1⟩
      rw[s1]
      refine⟨by omega,by omega,⟨by omega,by omega,by omega⟩,fun hge=>?_,fun hlt2=>⟨fun hm=>⟨?_,hg⟩,fun hm=>⟨by omega,?_,hg⟩⟩⟩
      · rw[if_pos hge]at htk
        exact⟨by omega,b.length-(j+1),by omega,j+1,by omega,by omega,rfl,by omega,by omega,s4,htk,hg⟩
      · rw[if_neg hlt2,if_pos hm]at htk
        rw[htk];rfl
      · rw[if_neg hlt2,if_neg hm]at htk
        rw[htk];rfl
  · have:j=b.length:=by omega
    subst this
    rw[List.drop_length]at htk
    rw[htk]
    exact⟨rfl,hg⟩
theorem ql2{zs:List Int}{k:Nat}(h:k<zs.length):(dy zs)[k]?=some (.int .i64 (zs.getD k 0)):=by
 simp[List.getD_eq_getElem?_getD,h]
theorem qie(zs:List Int)(k:Nat)(v:Int):(dy zs).set k (.int .i64 v)=dy (zs.set k v):=by simp[List.map_set]
def qkf(b:List Int):List Int:=ue (b.map Int.toNat) (List.replicate 256 0)
theorem qg7(b:List Int):(qkf b).length=256:=by rw[qkf,fq];simp
theorem qdl{w:World}{A:Option Addr}{n c:Nat}{b:List Int}(hr:Row w A (u8s b))(hn:n=b.length)(hb:∀ x∈b,0<=x/\x<=255)(hl:n<=2^40):
    Calls P 111 #[.slice A n c] w fun ev w'=>∃(A':Option Addr)(n' c':Nat),ev=.returned (.slice A' n' c')/\eo w' w.heap.size 3 A' n' c' (dy (qkf b))/\w.grownBy w' none:=by
  apply vc111;dsimp only[VC111,Wt,Br,Bb,Rd,Rc,Rs,Ix,rI_,rB_,rS_]
  try simp only[InK]
  obtain⟨w1,hr1,hown,g1⟩:=yr (P:=P) (w:=w) tu (by omega) (m:=256) (by omega)
  refine⟨_,_,_,w1,hr1,?_⟩
  have hA:∀ a,A=some a->b=[]∨a.block<w.heap.size:=fun a ha=>by
    by_cases e:b=[]
    · exact .inl e
    · obtain⟨q,e1,e2⟩:=hr.blk (by simpa using e)
      rw[ha]at e1;cases e1;exact .inr e2
  refine⟨fun m i w2=>∃ j:Nat,i=(j:Int)/\j<=b.length/\m=b.length-j/\Own w2 w.heap.size 3 256 (dy (ue ((b.take j).map Int.toNat) (List.replicate 256 0)))/\w1.grownBy w2 (some w.heap.size),
    ⟨_,0,rfl,by omega,rfl,by simpa[ue,dy]using hown,af _ _⟩,?_⟩
  rintro m i w2 ⟨j,rfl,hj,rfl,ho,hg⟩
  have tj:(j:Int).toNat=j:=by omega
  rw[tj]
  have hzl:(ue ((b.take j).map Int.toNat) (List.replicate 256 0)).length=256:=by rw[fq];simp
  refine⟨fun hlt=>?_,fun hge=>?_⟩
  · have lj:j<b.length:=by omega
    have hc:=hb _ (List.getElem_mem lj)
    have rowb:Row w2 A (u8s b):=(hr.kept_none g1).kept hg (fun a ha=>by
      rcases hA a ha with e | e
      · rw[e]at lj;simp at lj
      · simp;omega)
    obtain⟨a,ha1,ha2⟩:=rowb j (.int .u8 b[j]) (by simp[lj])
    have hs:b[j].toNat<256:=by omega
    have hcell:=ho.cell (j:=b[j].toNat) (u:=.int .i64 ((ue ((b.take j).map Int.toNat) (List.replicate 256 0)).getD b[j].toNat 0)) (ql2 (by omega))
    have hbd:=q9 ((b.take j).map Int.toNat) (xs:=List.replicate 256 0) (B:=0) (by simp) (by omega)
    have hv:=hbd ((ue ((b.take j).map Int.toNat) (List.replicate 256 0)).getD b[j].toNat 0) (by
      rw[List.getD_eq_getElem?_getD,List.getElem?_eq_getElem (by omega)];exact List.getElem_mem _)
    have htl:((b.take j).map Int.toNat).length=j:=by simp;omega
    refine⟨a,ha1,by omega,by omega,_,ha2,_,rfl,by omega,by omega,_,hcell,by omega,_,rfl,by omega,by omega,⟨_,hcell⟩,ho.notFrozen (aq _ _),by omega,b.length-(j+1),by omega,j+1,by omega,by omega,rfl,?_,ce hg (aq _ _) _⟩
    rw[List.take_succ_eq_append_getElem lj,List.map_append,t9]
    have hset:=ho.set (j:=b[j].toNat) (by rw[List.length_map];omega) (.int .i64 ((ue ((b.take j).map Int.toNat) (List.replicate 256 0)).getD b[j].toNat 0+1))
    rw[qie]at hset
    exact hset
  · have:j=b.length:=by omega
    subst this
    rw[List.take_length]at ho
    have h5:=ho.ownsRow (Nat.le_refl _) (by simp only[maxLen];omega)
    have hl5:(dy (ue (b.map Int.toNat) (List.replicate 256 0))).length=256:=by simp[dy,fq]
    rw[hl5]at h5
    exact⟨_,_,_,rfl,h5,ax g1 hg (by intro k hk;cases hk;omega)⟩
theorem kv{w:World}{A B:Option Addr}{n c m d:Nat}{a b:List Int}(hA:Row w A (u8s a))(hn:n=a.length)(hB:Row w B (u8s b))(hm:m=b.length)(ha:∀ x∈a,0<=x/\x<=255)(hb:∀ x∈b,0<=x/\x<=255):
    Calls P 50 #[.slice A n c,.slice B m d] w fun ev w'=>ev=.returned (.bool (decide (a=b)))/\w'=w:=by
  apply vc50;dsimp only[VC50,Wt,Br,Bb,Rd,Rc,Rs,Ix,rI_,rB_,rS_]
  refine⟨_,du hA hn,_,du hB hm,_,fun w=>qc1 _ _ _ _ w,?_,rfl⟩
  have:decide (qa8 a=qa8 b)=decide (a=b):=by
    rw[decide_eq_decide]
    exact⟨qec ha hb,fun h=>by rw[h]⟩
  rw[this]
end Go.Proofs.YtlieaecnllkefaaGreat
/-! Bytes in fewer ones: lists alone. -/
namespace Go.Proofs.YtlieaecnllkefaaGreat
open Go Go.V Go.RowKit
set_option linter.unusedVariables false
set_option linter.unusedSimpArgs false
set_option maxHeartbeats 4000000
set_option maxRecDepth 100000
abbrev bf(b:List Int):Prop:=∀ x∈b,0<=x/\x<=255
abbrev rj(b:List Int):List Nat:=b.map Int.toNat
def lsB(b:List Int):List Int:=gl (qkf b) 15
def gb:List Int->Nat->Nat->List Int
 | [],_,_=>[]
 | x ::l,s,nx=>if 0<x then fk (s-nx)++(fk x.toNat++gb l (s+1) (s+1)) else gb l (s+1) nx
def gy(b:List Int):List Int:=if b=[] then fk 0 else fk b.length++(fk (jf (lsB b))++(gb (lsB b) 0 0++fz (vu (lsB b) (rj b))))
theorem m15:dx 15=15:=by decide
theorem qog(b:List Int){s:Nat}(hs:s<256):(qkf b).getD s 0=((rj b).count s:Int):=by
 rw[qkf,qdy _ _ _ (by simpa using hs)]
 have:(List.replicate 256 (0:Int)).getD s 0=0:=by
  rw[List.getD_eq_getElem?_getD,List.getElem?_replicate];split <;>rfl
 simp only[rj]
 omega
theorem qca(p:Nat->Bool):∀ n:Nat,(((List.range n).filter p).length:Int)=az n (fun s=>if p s=true then 1 else 0)
 | 0=>by simp[az]
 | n+1=>by
  rw[List.range_succ,List.filter_append,List.length_append]
  have:=qca p n
  simp only[az]
  by_cases h:p n=true
  ·simp[h];omega
  ·simp[h];omega
theorem qjj{ls xs:List Int}(hl:ls.length=xs.length)(h:∀ s,s<xs.length->(0<ln ls s↔0<xs.getD s 0)):(z4 ls).length=(av xs).length:=by
 have h1:=qca (fun s=>decide (0<ln ls s)) ls.length
 have h2:=nl xs
 have h3:az ls.length (fun s=>if decide (0<ln ls s)=true then(1:Int) else 0)=PS xs (fun _=>1):=by
  unfold PS;rw[hl]
  apply bi;intro s hs
  have:=h s hs
  by_cases e:0<ln ls s
  ·rw[if_pos (by simpa using e),if_pos (this.1 e)]
  ·have e2:¬ 0<xs.getD s 0:=fun q=>e (this.2 q)
   simp only[e,decide_false,if_neg e2,Bool.false_eq_true,if_false]
 show(((List.range ls.length).filter fun s=>decide (0<ln ls s)).length)=_
 omega
theorem qmw{xs:List Int}{s:Nat}(hs:s<xs.length)(hp:0<xs.getD s 0):1<=(av xs).length:=by
 have h2:=nl xs
 have h3:=i7 (fun _=>(1:Int)) hs
 have h5:az xs.length (fun j=>if j=s then(1:Int) else 0)<=PS xs (fun _=>1):=by
  apply lr;intro i hi
  by_cases e1:i=s
  ·subst e1;simp only[hp,if_true];omega
  ·simp only[e1,if_false];split <;>omega
 rw[h3]at h5
 omega
theorem qjr{xs:List Int}(h:xs.length=256)(h1:1<=(av xs).length):cl (gl xs 15)=true:=by
 have hcl:=np xs
 have hn:(av xs).length<=2^dx 15:=by rw[m15];omega
 have hm:1<=dx 15:=by rw[m15];omega
 have hlen:(gl xs 15).length=xs.length:=ph (by omega) hn
 have hle:=fun s (hs:s<xs.length)=>qlz (most:=15) (by omega) hn hm hs
 rw[m15]at hle
 have hall:∀ x∈gl xs 15,0<=x/\x<=15:=by
  intro x hx
  obtain⟨s,hs,rfl⟩:=List.mem_iff_getElem.1 hx
  have:=hle s (by omega)
  have e:(gl xs 15).getD s 0=(gl xs 15)[s]:=by simp[List.getD_eq_getElem?_getD,hs]
  omega
 unfold cl
 have a1:decide ((gl xs 15).length<=256)=true:=by simp;omega
 have a2:(gl xs 15).all (fun x=>decide (0<=x/\x<=15))=true:=by
  rw[List.all_eq_true];intro x hx;simpa using hall x hx
 rw[a1,a2,Bool.true_and,Bool.true_and]
 by_cases h2:2<=(av xs).length
 ·have:=qn6 (most:=15) (by omega) h2 hn hm (by rw[m15];omega)
  simp[this]
 ·have hone:(av xs).length=1:=by omega
  have hp:=qjj hlen (fun s hs=>(hle s hs).2.2)
  have hall1:(gl xs 15).all (fun x=>decide (x<=1))=true:=by
   rw[List.all_eq_true];intro x hx
   obtain⟨s,hs,rfl⟩:=List.mem_iff_getElem.1 hx
   have e:(gl xs 15).getD s 0=(gl xs 15)[s]:=by simp[List.getD_eq_getElem?_getD,hs]
   rw[← e,qah (by omega) hn (by omega)]
   obtain⟨c,hc⟩:=List.length_eq_one_iff.1 hone
   have hch:(cg xs (dx 15)).length=1:=by
    unfold cg
    rw[if_pos hone,hc]
    have:=(vj (xs:=xs) (c:=c) (by rw[hc];simp)).1
    simp[this]
   have:=List.count_le_length (a:=s) (l:=cg xs (dx 15))
   simp;omega
  rw[hall1,hp,hone];simp
theorem iq{b:List Int}(h:bf b)(hne:b≠[]):(lsB b).length=256/\cl (lsB b)=true/\(∀ x∈rj b,x<(lsB b).length/\0<ln (lsB b) x)/\(∀ v∈lsB b,0<=v/\v<=15):=by
 have hl:=qg7 b
 have hsym:∀ x∈rj b,x<256/\0<(qkf b).getD x 0:=by
  intro x hx
  obtain⟨y,hy,rfl⟩:=List.mem_map.1 hx
  have:=h y hy
  refine⟨by omega,?_⟩
  rw[qog b (by omega)]
  have:=List.count_pos_iff.2 hx
  omega
 have h1:1<=(av (qkf b)).length:=by
  obtain⟨y,t,rfl⟩:=List.exists_cons_of_ne_nil hne
  have:=hsym y.toNat (by simp)
  exact qmw (s:=y.toNat) (by omega) this.2
 have hr:=qjr hl h1
 have hcl:=np (qkf b)
 have hn:(av (qkf b)).length<=2^dx 15:=by rw[m15];omega
 have hm:1<=dx 15:=by rw[m15];omega
 have hlen:(lsB b).length=256:=by rw[lsB,ph (by omega) hn,hl]
 have hle:=fun s (hs:s<(qkf b).length)=>qlz (most:=15) (by omega) hn hm hs
 rw[m15]at hle
 refine⟨hlen,hr,fun x hx=>⟨by have:=hsym x hx;omega,((hle x (by have:=hsym x hx;omega)).2.2).2 (hsym x hx).2⟩,?_⟩
 intro v hv
 obtain⟨s,hs,rfl⟩:=List.mem_iff_getElem.1 hv
 have:=hle s (by omega)
 have e:(gl (qkf b) 15).getD s 0=(lsB b)[s]:=by
  show(lsB b).getD s 0=_
  simp[List.getD_eq_getElem?_getD,hs]
 omega
theorem u9:∀(l:List Int)(s nx:Nat),nx<=s->0<jf l->∃(i:Nat)(x:Int),l[i]?=some x/\0<x/\(∀ j y,j<i->l[j]?=some y->¬ 0<y) ∧
    gb l s nx=fk (s+i-nx)++(fk x.toNat++gb (l.drop (i+1)) (s+i+1) (s+i+1))/\jf l=1+jf (l.drop (i+1))
  | [],s,nx,_,h=>by simp[jf]at h
  | x ::l,s,nx,hle,h=>by
    by_cases hx:0<x
    · refine⟨0,x,rfl,hx,fun j y hj=>by omega,?_,?_⟩
      · simp[gb,hx]
      · simp[jf,hx];omega
    · have hp:jf (x ::l)=jf l:=by simp[jf,hx]
      obtain⟨i,y,h1,h2,h3,h4,h5⟩:=u9 l (s+1) nx (by omega) (by omega)
      refine⟨i+1,y,by simpa using h1,h2,?_,?_,?_⟩
      · intro j z hj hz
        cases j with
        | zero=>simp at hz;subst hz;exact hx
        | succ j=>exact h3 j z (by omega) (by simpa using hz)
      · rw[gb,if_neg hx,h4]
        simp only[List.drop_succ_cons]
        rw[show s+1+i-nx=s+(i+1)-nx by omega,show s+1+i+1=s+(i+1)+1 by omega]
      · rw[hp,h5];simp
theorem yz:∀(l:List Int)(s nx:Nat),jf l=0->gb l s nx=[]/\∀ x∈l,¬ 0<x
 | [],s,nx,_=>by simp[gb]
 | x ::l,s,nx,h=>by
  have hx:¬ 0<x:=by intro hx;simp[jf,hx]at h
  have hp:jf l=0:=by simpa[jf,hx]using h
  obtain⟨h1,h2⟩:=yz l (s+1) nx hp
  refine⟨by rw[gb,if_neg hx,h1],fun y hy=>?_⟩
  rcases List.mem_cons.1 hy with e | e
  ·rw[e];exact hx
  ·exact h2 y e
def qi6(ls:List Int)(k:Nat):List Int:=ls.take k++List.replicate (256-k) 0
theorem mv{ls:List Int}{k:Nat}(hl:ls.length=256)(hk:k<=256):(qi6 ls k).length=256:=by simp[qi6];omega
theorem qcw{ls:List Int}{k j:Nat}(hl:ls.length=256)(hk:k<=256)(hj:j<256):(qi6 ls k)[j]?=some (if j<k then ln ls j else 0):=by
 unfold qi6
 by_cases h:j<k
 ·rw[List.getElem?_append_left (by simp;omega),List.getElem?_take,if_pos h,if_pos h,ln,List.getD_eq_getElem?_getD,List.getElem?_eq_getElem (by omega)];rfl
 ·rw[List.getElem?_append_right (by simp;omega),List.getElem?_replicate,if_neg h,if_pos (by simp;omega)]
theorem qk0(ls:List Int):qi6 ls 0=List.replicate 256 0:=by simp[qi6]
theorem qk1{ls:List Int}{k i:Nat}{x:Int}(hl:ls.length=256)(hr:∀ v∈ls,0<=v)(hk:k<=256)(hi:(ls.drop k)[i]?=some x)(hz:∀ j y,j<i->(ls.drop k)[j]?=some y->¬ 0<y):k+i<256/\(qi6 ls k).set (k+i) x=qi6 ls (k+i+1):=by
 rw[List.getElem?_drop]at hi
 have hlt:=(List.getElem?_eq_some_iff.1 hi).1
 refine⟨by omega,?_⟩
 apply List.ext_getElem?
 intro j
 by_cases hj:j<256
 ·rw[List.getElem?_set,qcw hl hk hj,qcw hl (by omega) hj]
  by_cases e:k+i=j
  ·subst e
   rw[if_pos rfl,if_pos (by rw[mv hl hk];omega),if_pos (by omega),ln,List.getD_eq_getElem?_getD,hi];rfl
  ·rw[if_neg e]
   by_cases h1:j<k
   ·rw[if_pos h1,if_pos (by omega)]
   ·rw[if_neg h1]
    by_cases h2:j<k+i+1
    ·rw[if_pos h2]
     have hjl:j<ls.length:=by omega
     have:=hz (j-k) ls[j] (by omega) (by rw[List.getElem?_drop,show k+(j-k)=j by omega];simp[hjl])
     have h0:=hr ls[j] (List.getElem_mem hjl)
     have:ln ls j=ls[j]:=by simp[ln,List.getD_eq_getElem?_getD,hjl]
     congr 1;omega
    ·rw[if_neg h2]
 ·rw[List.getElem?_eq_none (by rw[List.length_set,mv hl hk];omega),List.getElem?_eq_none (by rw[mv hl (by omega)];omega)]
theorem qnm{ls:List Int}{k:Nat}(hl:ls.length=256)(hr:∀ v∈ls,0<=v)(hk:k<=256)(hz:∀ x∈ls.drop k,¬ 0<x):qi6 ls k=ls:=by
 apply List.ext_getElem?
 intro j
 by_cases hj:j<256
 ·rw[qcw hl hk hj]
  have hjl:j<ls.length:=by omega
  have e:ln ls j=ls[j]:=by simp[ln,List.getD_eq_getElem?_getD,hjl]
  rw[List.getElem?_eq_getElem hjl,← e]
  by_cases h:j<k
  ·rw[if_pos h]
  ·rw[if_neg h]
   have h0:=hr ls[j] (List.getElem_mem hjl)
   have hm:ls[j]∈ls.drop k:=by
    rw[List.mem_iff_getElem?]
    exact⟨j-k,by rw[List.getElem?_drop,show k+(j-k)=j by omega];simp[hjl]⟩
   have:=hz _ hm
   congr 1;omega
 ·rw[List.getElem?_eq_none (by rw[mv hl hk];omega),List.getElem?_eq_none (by omega)]
theorem m7{u v:Nat}{s t:List Int}(hu:u<2^64)(hv:v<2^64)(h:fk u++s=fk v++t):u=v/\s=t:=by
 have h1:=ij (most:=2^64) (n:=u) (by omega) hu s
 have h2:=ij (most:=2^64) (n:=v) (by omega) hv t
 rw[h]at h1
 rw[h1]at h2
 have:u=v:=by have:=congrArg Prod.fst h2;simp at this;omega
 subst this
 exact⟨rfl,List.append_cancel_left h⟩
end Go.Proofs.YtlieaecnllkefaaGreat
/-! Bytes in fewer ones: no text begins as another. -/
namespace Go.Proofs.YtlieaecnllkefaaGreat
open Go Go.V Go.RowKit
set_option linter.unusedVariables false
set_option linter.unusedSimpArgs false
set_option maxHeartbeats 4000000
set_option maxRecDepth 100000
theorem qig:∀(n:Nat)(l l':List Int)(k:Nat)(a b:List Int),jf l=n->jf l'=n->l.length=l'.length->k+l.length<=256->(∀ v∈l,0<=v/\v<=15)->(∀ v∈l',0<=v/\v<=15)->gb l k k++a=gb l' k k++b->l=l'/\a=b
 | 0,l,l',k,a,b,h,h',hl,hk,hr,hr',he=>by
  obtain⟨e1,z1⟩:=yz l k k h
  obtain⟨e2,z2⟩:=yz l' k k h'
  rw[e1,e2]at he
  refine⟨?_,by simpa using he⟩
  have z:∀(q:List Int),(∀ v∈q,0<=v/\v<=15)->(∀ v∈q,¬ 0<v)->q=List.replicate q.length 0:=fun q h1 h2=>by
   rw[List.eq_replicate_iff]
   exact⟨rfl,fun v hv=>by have:=h1 v hv;have:=h2 v hv;omega⟩
  rw[z l hr z1,z l' hr' z2,hl]
 | n+1,l,l',k,a,b,h,h',hl,hk,hr,hr',he=>by
  obtain⟨i,x,h1,h2,h3,h4,h5⟩:=u9 l k k (Nat.le_refl _) (by omega)
  obtain⟨i',x',h1',h2',h3',h4',h5'⟩:=u9 l' k k (Nat.le_refl _) (by omega)
  have hi:=(List.getElem?_eq_some_iff.1 h1).1
  have hi':=(List.getElem?_eq_some_iff.1 h1').1
  have hx:=hr x (List.mem_of_getElem? h1)
  have hx':=hr' x' (List.mem_of_getElem? h1')
  rw[h4,h4',List.append_assoc,List.append_assoc,List.append_assoc,List.append_assoc]at he
  obtain⟨e1,hea⟩:=m7 (by omega) (by omega) he
  obtain⟨e2,heb⟩:=m7 (by omega) (by omega) hea
  clear he hea
  have ei:i=i':=by omega
  have ex:x=x':=by omega
  subst ei ex
  obtain⟨ed,ea⟩:=qig n (l.drop (i+1)) (l'.drop (i+1)) (k+i+1) a b (by omega) (by omega) (by simp[hl]) (by simp;omega) (fun v hv=>hr v (List.mem_of_mem_drop hv)) (fun v hv=>hr' v (List.mem_of_mem_drop hv)) heb
  refine⟨?_,ea⟩
  apply List.ext_getElem?
  intro j
  by_cases hj:j<i
  ·have jl:j<l.length:=by omega
   have jl':j<l'.length:=by omega
   have a1:=h3 j l[j] hj (by simp[jl])
   have a2:=h3' j l'[j] hj (by simp[jl'])
   have b1:=hr _ (List.getElem_mem jl)
   have b2:=hr' _ (List.getElem_mem jl')
   rw[List.getElem?_eq_getElem jl,List.getElem?_eq_getElem jl']
   congr 1;omega
  ·by_cases e:j=i
   ·subst e;rw[h1,h1']
   ·have:=congrArg (fun q=>q[j-(i+1)]?) ed
    simp only[List.getElem?_drop]at this
    rwa [show i+1+(j-(i+1))=j by omega]at this
theorem qft(a b:List Int)(i:Nat):jd (a++b) i=if i<8*a.length then jd a i else jd b (i-8*a.length):=by
 unfold jd
 by_cases h:i<8*a.length
 ·rw[if_pos h,List.getD_eq_getElem?_getD,List.getD_eq_getElem?_getD,List.getElem?_append_left (by omega)]
 ·rw[if_neg h,List.getD_eq_getElem?_getD,List.getD_eq_getElem?_getD,List.getElem?_append_right (by omega)]
  rw[show(i-8*a.length) / 8=i / 8-a.length by omega,show(i-8*a.length) % 8=i % 8 by omega]
theorem zp(a b:List Int):bg (a++b)=bg a++bg b:=by
 apply List.ext_getElem?
 intro j
 unfold bg
 simp only[List.getElem?_append,List.getElem?_map,List.length_map,List.length_range,List.length_append]
 by_cases h:j<8*a.length
 ·rw[if_pos h,List.getElem?_range (by omega),List.getElem?_range (by omega)]
  simp[qft,h]
 ·rw[if_neg h]
  by_cases h2:j<8*(a.length+b.length)
  ·rw[List.getElem?_range h2,List.getElem?_range (by omega)]
   simp[qft,h]
  ·rw[List.getElem?_eq_none (by simp;omega),List.getElem?_eq_none (by simp;omega)]
   rfl
theorem qmn{ls:List Int}(hR:cl ls=true):∀(o b:List Nat)(s t:List Bool),o.length=b.length->(∀ x∈o,x<ls.length/\0<ln ls x)->(∀ x∈b,x<ls.length/\0<ln ls x)->vu ls o++s=vu ls b++t->o=b
 | [],b,s,t,hl,_,_,_=>by cases b with
  | nil=>rfl
  | cons=>simp at hl
 | x ::o,[],s,t,hl,_,_,_=>by simp at hl
 | x ::o,y ::b,s,t,hl,ho,hb,he=>by
  rw[mq,mq,List.append_assoc,List.append_assoc]at he
  have h1:=uj hR (ho x (by simp)) (vu ls o++s)
  have h2:=uj hR (hb y (by simp)) (vu ls b++t)
  rw[he,h2]at h1
  have e:y=x:=by simpa using congrArg (fun q=>q.map Prod.fst) h1
  subst e
  have:=qmn hR o b s t (by simpa using hl) (fun z hz=>ho z (by simp[hz])) (fun z hz=>hb z (by simp[hz])) (List.append_cancel_left he)
  rw[this]
theorem qpu{o b:List Int}(ho:bf o)(hb:bf b)(h:rj o=rj b):o=b:=by
 have e:∀ q:List Int,bf q->(rj q).map (fun n:Nat=>(n:Int))=q:=by
  intro q hq
  rw[List.map_map]
  conv=>rhs;rw[← List.map_id q]
  apply List.map_congr_left
  intro x hx
  have:=hq x hx
  simp;omega
 rw[← e o ho,← e b hb,h]
theorem qc6{o b s t:List Int}(ho:bf o)(hb:bf b)(hol:o.length<2^64)(hbl:b.length<2^64)(h:gy o++s=gy b++t):o=b:=by
 have hlen:o.length=b.length:=by
  unfold gy at h
  have e:∀ q:List Int,∃ r,(if q=[] then fk 0 else fk q.length++(fk (jf (lsB q))++(gb (lsB q) 0 0++fz (vu (lsB q) (rj q)))))=fk q.length++r:=by
   intro q
   by_cases hq:q=[]
   ·exact⟨[],by simp[hq]⟩
   ·exact⟨_,if_neg hq⟩
  obtain⟨r1,e1⟩:=e o
  obtain⟨r2,e2⟩:=e b
  rw[e1,e2,List.append_assoc,List.append_assoc]at h
  exact(m7 hol hbl h).1
 by_cases hob:o=[]
 ·subst hob
  simp at hlen
  exact(List.eq_nil_of_length_eq_zero hlen.symm).symm
 ·have hbb:b≠[]:=fun e=>by subst e;simp at hlen;exact hob hlen
  unfold gy at h
  rw[if_neg hob,if_neg hbb]at h
  simp only[List.append_assoc]at h
  obtain⟨_,h⟩:=m7 hol hbl h
  obtain⟨l1,r1,s1,v1⟩:=iq ho hob
  obtain⟨l2,r2,s2,v2⟩:=iq hb hbb
  have p1:=wl (lsB o)
  have p2:=wl (lsB b)
  obtain⟨hp,h⟩:=m7 (by omega) (by omega) h
  obtain⟨hl,h⟩:=qig _ _ _ 0 _ _ rfl hp.symm (by omega) (by omega) v1 v2 h
  rw[hl]at h s1
  have h2:=congrArg bg h
  rw[zp,zp,i6,i6,List.append_assoc,List.append_assoc]at h2
  exact qpu ho hb (qmn r2 _ _ _ _ (by simpa using hlen) s1 s2 h2)
theorem qhv{o b:List Int}(ho:bf o)(hb:bf b)(hol:o.length<2^64)(hbl:b.length<2^64)(h:gy o=gy b):o=b :=
 qc6 (s:=[]) (t:=[]) ho hb hol hbl (by rw[h])
end Go.Proofs.YtlieaecnllkefaaGreat
/-! huff.Put: the walk. -/
namespace Go.Proofs.YtlieaecnllkefaaGreat
open Go Go.V Go.RowKit
set_option linter.unusedVariables false
set_option linter.unusedSimpArgs false
set_option maxHeartbeats 4000000
set_option maxRecDepth 100000
theorem sh{w:World}{b b' s s' n c n' c':Nat}{e e':TypeId}{A A':Option Addr}{xs xs':List Value}(h:am w b e s A n c xs)(h':am w b' e' s' A' n' c' xs')(ne:e≠e'):(Value.slice A n c).ownBlock=none∨(Value.slice A n c).ownBlock≠(Value.slice A' n' c').ownBlock:=by
 cases hk:(Value.slice A n c).ownBlock with
 | none=>exact .inl rfl
 | some k =>
  refine .inr fun hq=>?_
  obtain⟨c1,h1⟩:=h.block_type k hk
  obtain⟨c2,h2⟩:=h'.block_type k hq.symm
  rw[h1]at h2
  cases h2
  exact ne rfl
theorem dr{w:World}{b s n c:Nat}{e:TypeId}{A:Option Addr}{xs:List Value}(h:am w b e s A n c xs):A=none->c=0:=by
 obtain⟨_,⟨_,_,e,_⟩ | ⟨g,cur,e,_⟩⟩:=h.cases
 ·exact fun _=>e
 ·intro q;rw[q]at e;cases e
theorem qlp(x:Int)(l:List Int):jf (x ::l)=(if 0<x then 1 else 0)+jf l:=by
 unfold jf
 rw[List.filter_cons]
 by_cases h:0<x
 ·simp[h];omega
 ·simp[h]
theorem qlm(a b:Nat):cv [a,b]=fk a++fk b:=by simp[cv]
theorem ou(a:Nat):cv [a]=fk a:=by simp[cv]
theorem d8{w:World}{b n c:Nat}{A:Option Addr}{xs:List Int}(h:am w b 5 1 A n c (u8s xs)):n=xs.length:=by
 have:=h.cases.1;rw[List.length_map]at this;omega
theorem wz{w:World}{A:Option Addr}{n c:Nat}{b:List Int}(hr:Row w A (u8s b))(hn:n=b.length)(hb:bf b)(hl:n<=2^20):
    Calls P 69 #[.slice A n c] w fun ev w'=>∃(A':Option Addr)(n' c':Nat),ev=.returned (.slice A' n' c')/\am w' w.heap.size 5 1 A' n' c' (u8s (gy b))/\w.grownBy w' none:=by
  apply vc69;dsimp only[VC69,Wt,Br,Bb,Rd,Rc,Rs,Ix,rI_,rB_,rS_]
  try simp only[InK]
  refine⟨by omega,?_⟩
  have gal:=World.grownBy_alloc w (.cells #[.int .u64 (n:Int)] 22) none
  have hra:Row (w.alloc (.cells #[.int .u64 (n:Int)] 22)) (some ⟨w.heap.size,0,none⟩) (qpn [n]):=ey w _ 22
  refine(kb (l:=[n]) hra rfl (by simp;omega) (by simp)).mono fun ev w1 hh=>?_
  obtain⟨A1,n1,c1,rfl,o1,g1⟩:=hh
  replace o1:=o1.mono (base':=w.heap.size) gal.size
  have g01:=ab gal g1
  rw[ou]at o1
  refine⟨A1,n1,c1,rfl,fun h0=>?_,fun h0=>?_⟩
  · have e:b=[]:=by apply List.eq_nil_of_length_eq_zero;omega
    subst e
    have e0:n=0:=by omega
    subst e0
    exact⟨_,_,_,rfl,by simpa[gy]using o1,g01⟩
  have hne:b≠[]:=fun e=>by subst e;simp at hn;omega
  obtain⟨hls,hR,hsym,hrng⟩:=iq hb hne
  have hput:gy b=fk n++(fk (jf (lsB b))++(gb (lsB b) 0 0++fz (vu (lsB b) (rj b)))):=by rw[gy,if_neg hne,hn]
  have r1:=hr.kept_none g01
  refine(qdl r1 hn hb (by omega)).mono fun ev w2 hh=>?_
  obtain⟨A2,n2,c2,rfl,o2,g2⟩:=hh
  refine⟨_,_,_,rfl,?_⟩
  have hn2:n2=(qkf b).length:=by rw[o2.cases.1];simp[dy]
  refine(qdd (most:=15) o2.row hn2).mono fun ev w3 hh=>?_
  obtain⟨A3,n3,c3,rfl,o3,g3⟩:=hh
  replace o3:eo w3 w2.heap.size 3 A3 n3 c3 (dy (lsB b)):=o3
  generalize lsB b=ls at *
  have hn3:n3=256:=by rw[o3.cases.1];simp[dy,hls]
  have hpn:=wl ls
  have hnl:=dh (v:=n) (by omega)
  have g13:=ab g2 g3
  have g03:=ab g01 g13
  refine⟨_,_,_,rfl,?_⟩
  refine⟨fun m nn nx Ah nh ch i w4=>∃(j k:Nat)(hd:List Int),i=(j:Int)/\nx=(k:Int)/\k<=j/\j<=256/\m=256-j/\nn+(jf (ls.drop j):Int)=(jf ls:Int)/\hd++gb (ls.drop j) j k=gb ls 0 0/\am w4 w3.heap.size 5 1 Ah nh ch (u8s hd)/\hd.length<=20*j/\0<=nn/\w3.grownBy w4 none,
    ⟨_,0,0,[],rfl,rfl,by omega,by omega,rfl,by simp,by simp,am.nil _ _ _ _,by simp,by omega,af _ _⟩,?_⟩
  rintro m nn nx Ah nh ch i w4 ⟨j,k,hd,rfl,rfl,hkj,hj,rfl,hnn,hhd,oh,hhl,hn0,hg4⟩
  have tj:(j:Int).toNat=j:=by omega
  rw[tj]
  have hnh:=d8 oh
  refine⟨fun hlt=>?_,fun hge=>?_⟩
  · have lj:j<ls.length:=by omega
    have hdrop:=List.drop_eq_getElem_cons lj
    have hrj:=hrng _ (List.getElem_mem lj)
    obtain⟨p,hp⟩:∃ p:Nat,ls[j]=(p:Int):=⟨ls[j].toNat,by omega⟩
    obtain⟨a,ha1,ha2⟩:=(o3.row.kept_none hg4) j (.int .i64 ls[j]) (by simp[dy,lj])
    rw[hp]at ha2 hdrop hrj
    rw[hdrop,gb]at hhd
    rw[hdrop,qlp]at hnn
    refine⟨a,ha1,by omega,by omega,_,ha2,fun hpos=>?_,fun hz=>?_⟩
    · rw[if_pos (by omega)]at hhd hnn
      have ep:(p:Int).toNat=p:=by omega
      rw[ep]at hhd
      refine⟨by omega,by omega,by omega,?_⟩
      rw[show((j:Int)-(k:Int))=((j-k:Nat):Int) by omega]
      have ga:=World.grownBy_alloc w4 (.cells #[.int .u64 ((j-k:Nat):Int),.int .u64 (p:Int)] 22) none
      have hra:Row (w4.alloc (.cells #[.int .u64 ((j-k:Nat):Int),.int .u64 (p:Int)] 22)) (some ⟨w4.heap.size,0,none⟩) (qpn [j-k,p]):=ey w4 _ 22
      refine(kb (l:=[j-k,p]) hra rfl (by simp;omega) (by simp)).mono fun ev w5 hh=>?_
      obtain⟨A5,n5,c5,rfl,o5,g5⟩:=hh
      have g45:=ab ga g5
      rw[qlm]at o5
      have hn5:=d8 o5
      have l1:=dh (v:=j-k) (by omega)
      have l2:=dh (v:=p) (by omega)
      have l5:(fk (j-k)++fk p).length<=20:=by rw[List.length_append];omega
      obtain⟨A6,n6,c6,w6,e1,e2,e3,e4⟩:=bk (oh.kept g45) o5.row hn5 (dr o5) (by omega) (Nat.le_trans hg4.size g45.size)
      refine⟨_,_,_,rfl,_,_,_,w6,e1,by omega,by omega,by omega,256-(j+1),by omega,j+1,j+1,hd++(fk (j-k)++fk p),by omega,by omega,by omega,by omega,rfl,by omega,?_,e2,?_,by omega,ax (ab hg4 g45) e3 oh.block_ge⟩
      · rw[← hhd];simp
      · rw[List.length_append];omega
    · rw[if_neg (by omega)]at hhd hnn
      exact⟨by omega,256-(j+1),by omega,j+1,k,hd,by omega,rfl,by omega,by omega,rfl,by omega,hhd,oh,by omega,hn0,hg4⟩
  have e256:j=256:=by omega
  subst e256
  rw[List.drop_eq_nil_of_le (by omega)]at hhd hnn
  simp only[gb,List.append_nil]at hhd
  subst hhd
  have hnn':nn=(jf ls:Int):=by simp[jf]at hnn ⊢;omega
  subst hnn'
  refine⟨by omega,?_⟩
  have ga:=World.grownBy_alloc w4 (.cells #[.int .u64 (jf ls:Int)] 22) none
  have hra:Row (w4.alloc (.cells #[.int .u64 (jf ls:Int)] 22)) (some ⟨w4.heap.size,0,none⟩) (qpn [jf ls]):=ey w4 _ 22
  refine(kb (l:=[jf ls]) hra rfl (by simp;omega) (by simp)).mono fun ev w7 hh=>?_
  obtain⟨A7,n7,c7,rfl,o7,g7⟩:=hh
  have g47:=ab ga g7
  have g37:=ab hg4 g47
  have g17:=ab g13 g37
  rw[ou]at o7
  have hn7:=d8 o7
  have hn1:=d8 o1
  have l7:=dh (v:=jf ls) (by omega)
  have o1':=o1.kept g17
  have oh7:=oh.kept g47
  have o37:=am.kept (size:=1) o3 g37
  obtain⟨A8,n8,c8,w8,e1,e2,e3,e4⟩:=bk o1' o7.row hn7 (dr o7) (by omega) (Nat.le_trans g01.size g17.size)
  refine⟨_,_,_,rfl,_,_,_,w8,e1,?_⟩
  have oh8:=oh7.apart e3 (by
    cases hk:(Value.slice Ah nh ch).ownBlock with
    | none=>exact .inl rfl
    | some k =>
      refine .inr fun hq=>?_
      have a1:=oh.block_ge k hk
      have a2:=o1.block_lt k hq.symm
      have a3:=g13.size
      omega)
  have o38:=o37.apart e3 (sh o37 o1' (by decide))
  have K8:Kp w w8 (fun k=>w.heap.size<=k):=(Kp.of_none (ab g01 g17)).step e3 (fun k hk=>.inr (o1.block_ge k hk))
  obtain⟨A9,n9,c9,w9,f1,f2,f3,f4⟩:=bk e2 oh8.row (d8 oh8) (dr oh8) (by omega) K8.size
  refine⟨_,_,_,w9,f1,?_⟩
  have o39:=o38.apart f3 (sh o38 e2 (by decide))
  have K9:Kp w w9 (fun k=>w.heap.size<=k):=K8.step f3 (fun k hk=>.inr (e2.block_ge k hk))
  refine(qe0 (ls:=ls) o39.row (by omega) (by omega)).mono fun ev w10 hh=>?_
  obtain⟨g10,⟨hf,rfl⟩ | ⟨_,gt,rfl,hT⟩⟩:=hh
  · rw[hR]at hf;cases hf
  refine⟨_,_,rfl,?_⟩
  refine(pg (base:=w10.heap.size) (Nat.le_refl _)).mono fun ev w11 hh=>?_
  obtain⟨rfl,hW,g11⟩:=hh
  refine⟨_,rfl,?_⟩
  have K10:Kp w w10 (fun k=>w.heap.size<=k):=K9.step g10 (fun k hk=>by cases hk)
  have r10:Row w10 A (u8s b):=hr.kp K10 (fun a ha hk e=>by omega)
  have hA:∀ a,A=some a->a.block<w.heap.size:=fun a ha=>by
    obtain⟨q,q1,q2⟩:=hr.blk (by simpa using hne)
    rw[ha]at q1;cases q1;exact q2
  have keepT:∀ w',Kp w10 w' (fun k=>w10.heap.size<=k)->qdz w' w10.heap.size gt ls:=fun w' h=>hT.kp h (fun k hk e=>by omega)
  refine⟨fun m i w12=>∃ j:Nat,i=(j:Int)/\j<=b.length/\m=b.length-j/\Wr w12 w10.heap.size w10.heap.size (vu ls ((rj b).take j))/\Kp w10 w12 (fun k=>w10.heap.size<=k),
    ⟨_,0,rfl,by omega,rfl,by simpa[vu]using hW,Kp.of_none g11⟩,?_⟩
  rintro m i w12 ⟨j,rfl,hj,rfl,hW12,K12⟩
  have tj:(j:Int).toNat=j:=by omega
  rw[tj]
  have hel:=qaq hR ((rj b).take j)
  have hsb:=zu hR ((rj b).take j)
  have htl:((rj b).take j).length=j:=by simp;omega
  refine⟨fun hlt=>?_,fun hge=>?_⟩
  · have lj:j<b.length:=by omega
    obtain⟨a,ha1,ha2⟩:=(r10.kp K12 (fun a ha _ e=>by have:=hA a ha;have:=K10.size;omega)) j (.int .u8 b[j]) (by simp[lj])
    have hbj:=hb _ (List.getElem_mem lj)
    refine⟨a,ha1,by omega,by omega,_,ha2,by omega,?_⟩
    refine(qer (s:=b[j]) (keepT w12 K12) hR hW12 (by omega) K12.size).mono fun ev w13 hh=>?_
    obtain⟨rfl,hW13,k13⟩:=hh
    refine⟨_,rfl,by omega,b.length-(j+1),by omega,j+1,by omega,by omega,rfl,?_,K12.then k13 (fun k _ e=>e.1)⟩
    have hs:=hsym b[j].toNat (by simp only[rj];exact List.mem_map_of_mem (List.getElem_mem lj))
    have hv:lq ls b[j]=true:=by simp[lq];omega
    rw[List.take_succ_eq_append_getElem (by simpa using lj),qgz]
    have:vu ls [(rj b)[j]'(by simpa using lj)]=qd ls b[j]:=by
      rw[qd,if_pos hv];simp[vu]
    rw[this];exact hW13
  · have e:j=b.length:=by omega
    subst e
    rw[List.take_of_length_le (by simp)]at hW12 hel hsb
    have hsl:(rj b).length=b.length:=by simp
    refine(qax hW12 (by omega)).mono fun ev w14 hh=>?_
    obtain⟨A14,n14,c14,rfl,o14,g14⟩:=hh
    refine⟨_,_,_,rfl,?_⟩
    have f2':=am.kp (f2.kept g10) (K12.step g14 (fun k hk=>by cases hk)) (fun k hk e=>by have:=f2.block_lt k hk;have:=g10.size;omega)
    have hn14:=d8 o14
    rw[bo]at hn14
    have hn9:=d8 f2
    have hn8:=d8 e2
    obtain⟨A15,n15,c15,w15,h1,h2,h3,h4⟩:=bk f2' o14.row (d8 o14) (dr o14) (by omega) (Nat.le_trans K10.size (Nat.le_trans K12.size g14.size))
    refine⟨_,_,_,w15,h1,_,_,_,rfl,?_,?_⟩
    · rw[hput]
      simpa using h2
    · have K12':Kp w w12 (fun k=>w.heap.size<=k):=K10.then K12 (fun k hk e=>by have:=K10.size;omega)
      exact((K12'.step g14 (fun k hk=>by cases hk)).step h3 (fun k hk=>.inr (f2.block_ge k hk))).grown (fun k hk e=>by omega)
end Go.Proofs.YtlieaecnllkefaaGreat
/-! archipelagoref5.Put: the walk. -/
namespace Go.Proofs.YtlieaecnllkefaaGreat
open Go Go.V Go.RowKit
set_option linter.unusedVariables false
set_option linter.unusedSimpArgs false
set_option maxHeartbeats 4000000
set_option maxRecDepth 100000
end Go.Proofs.YtlieaecnllkefaaGreat
/-! The readers' heads: numbers and lengths: the walks. -/
namespace Go.Proofs.YtlieaecnllkefaaGreat
open Go Go.V Go.RowKit
set_option linter.unusedVariables false
set_option linter.unusedSimpArgs false
set_option maxHeartbeats 4000000
set_option maxRecDepth 100000
theorem qnn(l:List Int)(k:Nat):(u8s l).drop k=u8s (l.drop k):=by simp
theorem qkc{w:World}{A:Option Addr}{c k:Nat}{l:List Int}(h:Row w A (u8s l))(hc:l.length<=c):Row w (dz A c k 1) (u8s (l.drop k)):=by
 unfold dz
 split
 ·rename_i hck
  rw[List.drop_eq_nil_of_le (by omega)]
  intro j u hj;simp at hj
 ·have:=h.drop (k*1)
  rw[Nat.mul_one,qnn]at this
  rw[Nat.mul_one]
  exact this
theorem qfn{A:Option Addr}{c k:Nat}{a:Addr}(h:dz A c k 1=some a):∃ a',A=some a'/\a.block=a'.block:=by
 unfold dz at h
 split at h
 ·exact⟨a,h,rfl⟩
 ·cases A with
  | none=>simp at h
  | some a'=>simp at h;subst h;exact⟨a',rfl,aq _ _⟩
def nq(w:World)(g:Nat)(l:List Int)(ok:Bool):Prop:=∃(A:Option Addr)(n c:Nat),w.heap[g]?=some (.cells #[.slice A n c,.bool ok] 236 (0,0))/\Row w A (u8s l)/\n=l.length/\n<=c/\∀ a,A=some a->l=[]∨a.block<g
theorem nq.kp{w w':World}{S:Nat->Prop}{g:Nat}{l:List Int}{ok:Bool}(h:nq w g l ok)(hk:Kp w w' S)(hS:∀ k,k<=g->¬ S k):nq w' g l ok:=by
 obtain⟨A,n,c,h1,h2,h3,h4,h5⟩:=h
 exact⟨A,n,c,by rw[hk.block g (Array.getElem?_eq_some_iff.1 h1).1 (hS g (Nat.le_refl _))];exact h1,h2.kpE hk (fun a ha=>(h5 a ha).imp (fun e=>by rw[e];rfl) (fun e=>hS _ (by omega))),h3,h4,h5⟩
theorem nq.lt{w:World}{g:Nat}{l:List Int}{ok:Bool}(h:nq w g l ok):g<w.heap.size:=by
 obtain⟨A,n,c,h1,_⟩:=h
 exact(Array.getElem?_eq_some_iff.1 h1).1
theorem ck{w w':World}{S:Nat->Prop}{g j:Nat}{u:Value}(h:Kp w w' S)(hS:S g):Kp w (w'.setCell ⟨g,j,none⟩ u) S:=h.set (p:=⟨g,j,none⟩) (.inr hS) u
theorem set2{w w':World}{S:Nat->Prop}{b j:Nat}{u:Value}(h:Kp w w' S)(hS:S b):Kp w (w'.setCell ((⟨b,0,none⟩:Addr).add j) u) S:=h.set (.inr (by rw[aq];exact hS)) u
theorem uu{w:World}{g:Nat}{l:List Int}{ok:Bool}{most:Int}(h:nq w g l ok)(hb:bf l)(hl:l.length<=2^40)(hm:0<=most/\most<=9223372036854775807):
    Calls P 161 #[.pointer (some ⟨g,0,none⟩),.int .u64 most] w fun ev w'=>ev=.returned (.int .i64 (d9 most l).1)/\nq w' g (l.drop (d9 most l).2.1) (ok && decide ((d9 most l).2.2=0))/\Kp w w' (fun k=>k=g):=by
  obtain⟨A,n,c,h1,h2,h3,h4,h5⟩:=h
  apply vc161;dsimp only[VC161,Wt,Br,Bb,Rd,Rc,Rs,Ix,rI_,rB_,rS_]
  try simp only[InK]
  refine⟨_,rfl,_,_,_,aa h1 0,?_⟩
  refine(rv (most:=most) h2 h3 hb (by omega)).mono fun ev w1 hh=>?_
  obtain⟨rfl,g1⟩:=hh
  have ht:=mw (most:=most) (b:=l) (fun x hx=>(hb x hx).1)
  obtain⟨v,k,e,hv⟩:∃ v k e,d9 most l=(v,k,e):=⟨_,_,_,rfl⟩
  rw[hv]at ht ⊢
  simp only at ht ⊢
  have hg1:=aj g1
  have lt:g<w.heap.size:=(Array.getElem?_eq_some_iff.1 h1).1
  have h1':w1.drew.heap[g]?=some (.cells #[.slice A n c,.bool ok] 236 (0,0)):=by rw[hg1.block g lt (by simp)];exact h1
  have tk:(k:Int).toNat=k:=by omega
  have hkn:k<=n:=by omega
  have hs1:=ah h1' 0 (.slice (dz A c k 1) (n-k) (c-k))
  have fin:∀ q:Bool,nq ((w1.drew.setCell ⟨g,0,none⟩ (.slice (dz A c k 1) (n-k) (c-k))).setCell ⟨g,1,none⟩ (.bool q)) g (l.drop k) q/\Kp w ((w1.drew.setCell ⟨g,0,none⟩ (.slice (dz A c k 1) (n-k) (c-k))).setCell ⟨g,1,none⟩ (.bool q)) (fun k=>k=g):=by
    intro q
    have K:Kp w ((w1.drew.setCell ⟨g,0,none⟩ (.slice (dz A c k 1) (n-k) (c-k))).setCell ⟨g,1,none⟩ (.bool q)) (fun k=>k=g):=ck (ck (Kp.of_none hg1) rfl) rfl
    refine⟨⟨_,_,_,by simpa using ah hs1 1 (.bool q),?_,by simp;omega,by omega,?_⟩,K⟩
    · exact qkc (h2.kpE K (fun a ha=>(h5 a ha).imp (fun e=>by rw[e];rfl) (fun e=>by omega))) (by omega)
    · intro a ha
      obtain⟨a',e1,e2⟩:=qfn ha
      exact(h5 a' e1).imp (fun e=>by rw[e];simp) (fun e=>by omega)
  refine⟨v,(k:Int),e,rfl,_,rfl,_,_,_,aa h1' 0,⟨by omega,by omega⟩,?_⟩
  rw[tk]
  refine⟨_,rfl,ok,by rw[au];exact aa h1' 1,fun h=>?_,fun h=>?_⟩
  · refine⟨_,rfl,⟨_,aa h1' 0⟩,ae h1' 0,_,rfl,⟨_,by rw[au];exact aa hs1 1⟩,by rw[au];exact ae hs1 1,⟨by omega,by omega⟩,rfl,?_⟩
    rw[au,h,Bool.true_and]
    exact fin _
  · refine⟨_,rfl,⟨_,aa h1' 0⟩,ae h1' 0,_,rfl,⟨_,by rw[au];exact aa hs1 1⟩,by rw[au];exact ae hs1 1,⟨by omega,by omega⟩,rfl,?_⟩
    rw[au,h,Bool.false_and]
    exact fin _
def qpd(l ls tail:List Int):Prop:=ls.length=256/\(∀ v∈ls,0<=v/\v<=15)/\l=fk (jf ls)++(gb ls 0 0++tail)
theorem qpd.step{ls tail r:List Int}{k:Nat}{n:Int}(hls:ls.length=256)(hr:∀ v∈ls,0<=v/\v<=15)(hk:k<=256)(hn:n=(jf (ls.drop k):Int))(hp:0<n)(he:r=gb (ls.drop k) k k++tail):
    ∃(i:Nat)(x:Int)(r1:List Int),k+i<256/\0<=x/\x<=15/\r=fk i++r1/\r1=fk x.toNat++(gb (ls.drop (k+i+1)) (k+i+1) (k+i+1)++tail)/\(qi6 ls k).set (k+i) x=qi6 ls (k+i+1)/\n-1=(jf (ls.drop (k+i+1)):Int):=by
  obtain⟨i,x,h1,h2,h3,h4,h5⟩:=u9 (ls.drop k) k k (Nat.le_refl _) (by omega)
  obtain⟨u1,u2⟩:=qk1 hls (fun v hv=>(hr v hv).1) hk h1 h3
  have hx:=hr x (List.mem_of_mem_drop (List.mem_of_getElem? h1))
  rw[List.drop_drop,show k+(i+1)=k+i+1 by omega]at h4 h5
  refine⟨i,x,_,u1,hx.1,hx.2,?_,rfl,u2,by omega⟩
  rw[he,h4,show k+i-k=i by omega]
  simp
theorem qjs {w:World} {g:Nat} {l:List Int} (h:nq w g l true) (hb:bf l) (hl:l.length<=2^40) :
    Calls P 162 #[.pointer (some ⟨g,0,none⟩)] w fun ev w'=>∃(A':Option Addr)(c':Nat)(out:List Int)(ok:Bool)(p:Nat),ev=.returned (.slice A' 256 c')/\Row w' A' (dy out)/\out.length=256/\nq w' g (l.drop p) ok/\Kp w w' (fun k=>k=g)/\∀ ls tail,qpd l ls tail->ok=true/\out=ls/\l.drop p=tail:=by
  apply vc162;dsimp only[VC162,Wt,Br,Bb,Rd,Rc,Rs,Ix,rI_,rB_,rS_]
  try simp only[InK]
  obtain⟨w1,hr1,hown,g1⟩:=yr (P:=P) (w:=w) tu (by omega) (m:=256) (by omega)
  have hgl:=h.lt
  refine⟨_,_,_,w1,hr1,?_⟩
  have h1:nq w1 g l true:=h.kp (S:=fun _=>False) (Kp.of_none g1) (fun _ _ h=>h)
  refine(uu (most:=256) h1 hb hl (by omega)).mono fun ev w2 hh=>?_
  obtain⟨rfl,hN2,k2⟩:=hh
  have ht:=mw (most:=256) (b:=l) (fun x hx=>(hb x hx).1)
  have o2:Own w2 w.heap.size 3 256 (List.replicate 256 (.int .i64 0)):=hown.of_heap (k2.block _ hown.lt (by omega))
  have K2:Kp w w2 (fun k=>k=g):=(Kp.of_none g1).then k2 (fun k _ e=>e)
  refine⟨_,rfl,?_⟩
  refine⟨fun m next n w3=>∃(p k:Nat)(out:List Int)(ok:Bool),next=(k:Int)/\k<=256/\m=n.toNat/\0<=n/\n<=256/\Own w3 w.heap.size 3 256 (dy out)/\out.length=256/\nq w3 g (l.drop p) ok/\Kp w w3 (fun k=>k=g)/\∀ ls tail,qpd l ls tail->ok=true/\out=qi6 ls k/\n=(jf (ls.drop k):Int)/\l.drop p=gb (ls.drop k) k k++tail,
    ⟨_,_,0,List.replicate 256 0,_,rfl,by omega,rfl,by omega,by omega,by simpa[dy]using o2,by simp,hN2,K2,?_⟩,?_⟩
  · rintro ls tail ⟨hls,hr,he⟩
    have hpn:=wl ls
    have htk:=ij (most:=256) (n:=jf ls) (by omega) (by omega) (gb ls 0 0++tail)
    rw[← he]at htk
    rw[htk]
    refine⟨by simp,(qk0 ls).symm,by simp,?_⟩
    show l.drop (fk (jf ls)).length=_
    rw[he];simp
  rintro m next n w3 ⟨p,k,out,ok,rfl,hk,rfl,hn0,hn1,ho,hol,hN,K3,hc⟩
  have hout:∀ w',w'.heap[w.heap.size]?=w3.heap[w.heap.size]?->Own w' w.heap.size 3 256 (dy out):=fun w' e=>ho.of_heap e
  have fin:∀ w' (o':List Int),Own w' w.heap.size 3 256 (dy o')->Row w' (some ⟨w.heap.size,0,none⟩) (dy o'):=fun w' o' h=>h.row
  refine⟨fun hpos=>?_,fun hz=>?_⟩
  · obtain⟨A,nn,cc,b1,b2,b3,b4,b5⟩:=hN
    have hN:nq w3 g (l.drop p) ok:=⟨A,nn,cc,b1,b2,b3,b4,b5⟩
    refine⟨_,rfl,ok,by rw[au];exact aa b1 1,fun hok=>?_,fun hok=>?_⟩
    · subst hok
      have hbd:bf (l.drop p):=fun x hx=>hb x (List.mem_of_mem_drop hx)
      refine(uu (most:=256) hN hbd (by simp;omega) (by omega)).mono fun ev w4 hh=>?_
      obtain⟨rfl,hN4,k4⟩:=hh
      have ht4:=mw (most:=256) (b:=l.drop p) (fun x hx=>(hbd x hx).1)
      obtain⟨v,q,e,hv⟩:∃ v q e,d9 256 (l.drop p)=(v,q,e):=⟨_,_,_,rfl⟩
      rw[hv]at ht4 hN4 ⊢
      simp only[Bool.true_and]at ht4 hN4 ⊢
      rw[List.drop_drop]at hN4
      have ho4:Own w4 w.heap.size 3 256 (dy out):=ho.of_heap (k4.block _ ho.lt (by omega))
      have K4:Kp w w4 (fun k=>k=g):=K3.then k4 (fun k _ e=>e)
      obtain⟨A4,n4,c4,d1,d2,d3,d4,d5⟩:=hN4
      have hc4:∀ ls tail,qpd l ls tail->∃(x:Int)(i:Nat),v=(i:Int)/\e=0/\k+i<256/\0<=x/\x<=15/\l.drop (p+q)=fk x.toNat++(gb (ls.drop (k+i+1)) (k+i+1) (k+i+1)++tail)/\out.set (k+i) x=qi6 ls (k+i+1)/\n-1=(jf (ls.drop (k+i+1)):Int):=by
        intro ls tail hd
        obtain⟨_,c1,c2,c3⟩:=hc ls tail hd
        obtain⟨i,x,r1,s1,s2,s3,s4,s5,s6,s7⟩:=qpd.step hd.1 hd.2.1 hk c2 hpos c3
        have htk:=ij (most:=256) (n:=i) (by omega) (by omega) r1
        rw[← s4,hv]at htk
        have e1:v=(i:Int):=congrArg Prod.fst htk
        have e2:q=(fk i).length:=congrArg (fun t=>t.2.1) htk
        have e3:e=0:=congrArg (fun t=>t.2.2) htk
        refine⟨x,i,e1,e3,s1,s2,s3,?_,by rw[c1];exact s6,s7⟩
        rw[← List.drop_drop,s4,e2,List.drop_left,s5]
      refine⟨v,rfl,by omega,_,rfl,decide (e=0),by rw[au];exact aa d1 1,fun he=>?_,fun he=>?_⟩
      · have he0:e=0:=by simpa using he
        have hs1:=ah d1 1 (.bool (decide ((k:Int)+v<256)))
        have K5:Kp w4 (w4.setCell ⟨g,1,none⟩ (.bool (decide ((k:Int)+v<256)))) (fun k=>k=g):=ck (Kp.refl w4 _) rfl
        have ho5:=ho4.of_heap (K5.block _ ho4.lt (by omega))
        have hN5:nq (w4.setCell ⟨g,1,none⟩ (.bool (decide ((k:Int)+v<256)))) g (l.drop (p+q)) (decide ((k:Int)+v<256)) :=
          ⟨A4,n4,c4,by simpa using hs1,d2.kpE K5 (fun a ha=>(d5 a ha).imp (fun e=>by rw[e];rfl) (fun e=>by omega)),d3,d4,d5⟩
        refine⟨_,rfl,⟨_,by rw[au];exact aa d1 1⟩,by rw[au];exact ae d1 1,_,rfl,decide ((k:Int)+v<256),?_,fun hlt=>?_,fun hge=>?_⟩
        · rw[au];simpa using aa hs1 1
        · rw[au]
          have hlt':(k:Int)+v<256:=by simpa using hlt
          rw[hlt]at hN5
          simp only[hlt]at ho5 hN5 K5 ⊢
          have hbd2:bf (l.drop (p+q)):=fun x hx=>hb x (List.mem_of_mem_drop hx)
          refine(uu (most:=15) hN5 hbd2 (by simp;omega) (by omega)).mono fun ev w6 hh=>?_
          obtain⟨rfl,hN6,k6⟩:=hh
          have ho6:=ho5.of_heap (k6.block _ ho5.lt (by omega))
          have tv:((k:Int)+v).toNat=k+v.toNat:=by omega
          have hcell:=ho6.cell (j:=k+v.toNat) (u:=.int .i64 (out.getD (k+v.toNat) 0)) (ql2 (by omega))
          refine⟨_,rfl,by omega,_,rfl,by omega,by omega,?_,?_,by omega,(n-1).toNat,by omega,?_⟩
          · rw[tv];exact⟨_,hcell⟩
          · exact ho6.notFrozen (aq _ _)
          · rw[tv]
            have hset:=ho6.set (j:=k+v.toNat) (by rw[List.length_map];omega) (.int .i64 (d9 15 (l.drop (p+q))).1)
            rw[qie]at hset
            have K6:Kp w (w6.setCell ((⟨w.heap.size,0,none⟩:Addr).add (k+v.toNat)) (.int .i64 (d9 15 (l.drop (p+q))).1)) (fun k=>k=g):=((K4.then K5 (fun k _ e=>e)).then k6 (fun k _ e=>e)).set (.inl (by rw[aq];exact Nat.le_refl _)) _
            have hN7:=hN6.kp (S:=fun k=>k=w.heap.size) (set2 (b:=w.heap.size) (j:=k+v.toNat) (u:=.int .i64 (d9 15 (l.drop (p+q))).1) (Kp.refl w6 _) rfl) (fun k hk e=>by omega)
            rw[List.drop_drop]at hN7
            refine⟨_,k+v.toNat+1,out.set (k+v.toNat) (d9 15 (l.drop (p+q))).1,_,by omega,by omega,rfl,by omega,by omega,hset,by simp;omega,hN7,K6,?_⟩
            intro ls tail hd
            obtain⟨x,i,a1,a2,a3,a4,a5,a6,a7,a8⟩:=hc4 ls tail hd
            have htk:=ij (most:=15) (n:=x.toNat) (by omega) (by omega) (gb (ls.drop (k+i+1)) (k+i+1) (k+i+1)++tail)
            rw[← a6]at htk
            have ti:v.toNat=i:=by omega
            rw[htk,ti]
            refine⟨by simp,?_,a8,?_⟩
            · show out.set (k+i) ((x.toNat:Nat):Int)=_
              rw[show((x.toNat:Nat):Int)=x by omega];exact a7
            · show l.drop (p+q+(fk x.toNat).length)=_
              rw[← List.drop_drop,a6,List.drop_left]
        · rw[au]
          simp only[hge]at ho5 hN5 K5 ⊢
          refine⟨by omega,(n-1).toNat,by omega,p+q,k,out,false,rfl,hk,rfl,by omega,by omega,ho5,hol,hN5,K4.then K5 (fun k _ e=>e),?_⟩
          intro ls tail hd
          obtain⟨x,i,a1,a2,a3,_⟩:=hc4 ls tail hd
          exfalso
          have:decide ((k:Int)+v<256)=true:=by simp;omega
          rw[hge]at this;cases this
      · have hs1:=ah d1 1 (.bool false)
        have K5:Kp w4 (w4.setCell ⟨g,1,none⟩ (.bool false)) (fun k=>k=g):=ck (Kp.refl w4 _) rfl
        have ho5:=ho4.of_heap (K5.block _ ho4.lt (by omega))
        have hN5:nq (w4.setCell ⟨g,1,none⟩ (.bool false)) g (l.drop (p+q)) false :=
          ⟨A4,n4,c4,by simpa using hs1,d2.kpE K5 (fun a ha=>(d5 a ha).imp (fun e=>by rw[e];rfl) (fun e=>by omega)),d3,d4,d5⟩
        refine⟨_,rfl,⟨_,by rw[au];exact aa d1 1⟩,by rw[au];exact ae d1 1,_,rfl,false,?_,fun h=>(by cases h),fun _=>?_⟩
        · rw[au];simpa using aa hs1 1
        · rw[au]
          refine⟨by omega,(n-1).toNat,by omega,p+q,k,out,false,rfl,hk,rfl,by omega,by omega,ho5,hol,hN5,K4.then K5 (fun k _ e=>e),?_⟩
          intro ls tail hd
          obtain⟨x,i,a1,a2,_⟩:=hc4 ls tail hd
          exfalso
          have:decide (e=0)=true:=by simpa using a2
          rw[he]at this;cases this
    · exact⟨_,_,out,ok,p,rfl,fin w3 out ho,hol,hN,K3,fun ls tail hd=>by have:=(hc ls tail hd).1;rw[hok]at this;cases this⟩
  · refine⟨_,_,out,ok,p,rfl,fin w3 out ho,hol,hN,K3,fun ls tail hd=>?_⟩
    obtain⟨c0,c1,c2,c3⟩:=hc ls tail hd
    have hp0:jf (ls.drop k)=0:=by omega
    obtain⟨h1,h2⟩:=yz (ls.drop k) k k hp0
    rw[h1,List.nil_append]at c3
    refine⟨c0,?_,c3⟩
    rw[c1];exact qnm hd.1 (fun v hv=>(hd.2.1 v hv).1) hk h2
end Go.Proofs.YtlieaecnllkefaaGreat
/-! archipelagoref5's lengths: the walk. -/
namespace Go.Proofs.YtlieaecnllkefaaGreat
open Go Go.V Go.RowKit
set_option linter.unusedVariables false
set_option linter.unusedSimpArgs false
set_option maxHeartbeats 4000000
set_option maxRecDepth 100000
end Go.Proofs.YtlieaecnllkefaaGreat
/-! huff.Read: the walk. -/
namespace Go.Proofs.YtlieaecnllkefaaGreat
open Go Go.V Go.RowKit
set_option linter.unusedVariables false
set_option linter.unusedSimpArgs false
set_option maxHeartbeats 4000000
set_option maxRecDepth 100000
theorem sw:∀(l:List Int)(s nx:Nat),bf (gb l s nx)
 | [],s,nx=>by intro y hy;simp[gb]at hy
 | x ::l,s,nx=>by
  rw[gb]
  split
  ·intro y hy
   rcases List.mem_append.1 hy with e | e
   ·exact jb _ y e
   ·rcases List.mem_append.1 e with e | e
    ·exact jb _ y e
    ·exact sw l _ _ y e
  ·exact sw l _ _
theorem wk(b:List Int):bf (gy b):=by
 unfold gy
 split
 ·exact jb 0
 ·intro y hy
  rcases List.mem_append.1 hy with e | e
  ·exact jb _ y e
  ·rcases List.mem_append.1 e with e | e
   ·exact jb _ y e
   ·rcases List.mem_append.1 e with e | e
    ·exact sw _ _ _ y e
    ·exact z9 _ y e
abbrev qm8:Value:=.tuple #[.slice none 0 0,.int .i64 21]
theorem own_le{w:World}{b s n c:Nat}{e:TypeId}{A:Option Addr}{xs:List Value}(h:am w b e s A n c xs):n<=c:=by
 obtain⟨_,⟨_,e1,e2,_⟩ | ⟨g,cur,_,_,_,e,_⟩⟩:=h.cases
 ·omega
 ·exact e
def qng(x:List Int)(ev:Ending)(w':World):Prop :=
 (∃(A':Option Addr)(n' c':Nat)(o:List Int),ev=.returned (.tuple #[.slice A' n' c',.int .i64 0])/\Row w' A' (u8s o)/\(n'=o.length/\n'<=c')/\bf o/\o.length<=2^20/\gy o=x) ∨
 (ev=.returned qm8/\∀ o,bf o->o.length<2^62->gy o≠x)
theorem qep{w:World}{A B:Option Addr}{n c m d:Nat}{x o:List Int}{R:Ending->World->Prop}{bad good:Ending}(hA:Row w A (u8s x))(hn:n=x.length)(hb:bf x)(hB:Row w B (u8s o))(hm:m=o.length)(hbo:bf o)(hl:m<=2^20)
    (hbad:gy o≠x->∀ w',w.grownBy w' none->R bad w') (hgood:gy o=x->∀ w',w.grownBy w' none->R good w') :
    Calls P 69 #[.slice B m d] w fun ev w1=>∃(C:Option Addr)(k e:Nat),ev=.returned (.slice C k e)/\Calls P 50 #[.slice C k e,.slice A n c] w1 fun ev2 w2=>∃ q:Bool,ev2=.returned (.bool q)/\((q=false->R bad w2)/\(¬ q=false->R good w2)):=by
  refine(wz hB hm hbo hl).mono fun ev w1 hh=>?_
  obtain⟨C,k,e,rfl,oC,g1⟩:=hh
  refine⟨_,_,_,rfl,?_⟩
  refine(kv oC.row (d8 oC) (hA.kept_none g1) hn (wk o) hb).mono fun ev w2 hh=>?_
  obtain⟨rfl,rfl⟩:=hh
  exact⟨_,rfl,fun h=>hbad (by simpa using h) _ g1,fun h=>hgood (by simpa using h) _ g1⟩
theorem qp7{o x:List Int}(ho:bf o)(hl:o.length<2^62)(h:gy o=x){most:Int}(hm:2^62<=most):∃ k,d9 most x=((o.length:Int),k,0)/\k<=x.length/\(o≠[]->qpd (x.drop k) (lsB o) (fz (vu (lsB o) (rj o)))):=by
 by_cases hne:o=[]
 ·subst hne
  have:=ij (most:=most) (n:=0) (by omega) (by omega) []
  rw[List.append_nil,show fk 0=x by simpa[gy]using h]at this
  refine⟨_,by simpa using this,?_,fun e=>absurd rfl e⟩
  rw[← show fk 0=x by simpa[gy]using h];exact Nat.le_refl _
 ·rw[gy,if_neg hne]at h
  have:=ij (most:=most) (n:=o.length) (by omega) (by omega) (fk (jf (lsB o))++(gb (lsB o) 0 0++fz (vu (lsB o) (rj o))))
  rw[h]at this
  obtain⟨l1,r1,s1,v1⟩:=iq ho hne
  refine⟨_,this,?_,fun _=>⟨l1,v1,?_⟩⟩
  ·rw[← h,List.length_append];omega
  ·rw[← h,List.drop_left]
theorem sr {w :World} {A:Option Addr} {n c:Nat} {x:List Int} (hr:Row w A (u8s x)) (hn:n=x.length) (hc:n<=c) (hb:bf x) (hl:x.length<=2^16) :
    Calls P 121 #[.slice A n c] w fun ev w'=>w.grownBy w' none/\qng x ev w':=by
  apply vc121;dsimp only[VC121,Wt,Br,Bb,Rd,Rc,Rs,Ix,rI_,rB_,rS_]
  try simp only[InK]
  have gal:=World.grownBy_alloc w (.cells #[.slice A n c,.bool true] 236) none
  have hAb:∀ a,A=some a->x=[]∨a.block<w.heap.size:=fun a ha=>by
    by_cases e:x=[]
    · exact .inl e
    · obtain⟨q,q1,q2⟩:=hr.blk (by simpa using e)
      rw[ha]at q1;cases q1;exact .inr q2
  have hN0:nq (w.alloc (.cells #[.slice A n c,.bool true] 236)) w.heap.size x true:=⟨A,n,c,heap_alloc_new w _,hr.kept_none gal,hn,hc,hAb⟩
  refine(uu (most:=9223372036854775807) hN0 hb (by omega) (by omega)).mono fun ev w1 hh=>?_
  obtain⟨rfl,hN1,k1⟩:=hh
  have K1:Kp w w1 (fun k=>w.heap.size<=k):=(Kp.of_none gal).then k1 (fun k _ e=>by omega)
  have keepX:∀ w',Kp w w' (fun k=>w.heap.size<=k)->Row w' A (u8s x):=fun w' K=>hr.kpE K (fun a ha=>(hAb a ha).imp (fun e=>by rw[e];rfl) (fun e=>by omega))
  have grw:∀ w',Kp w w' (fun k=>w.heap.size<=k)->w.grownBy w' none:=fun w' K=>K.grown (fun k hk e=>by omega)
  have ht:=mw (most:=9223372036854775807) (b:=x) (fun y hy=>(hb y hy).1)
  have hO:∀ o,bf o->o.length<2^62->gy o=x->∃ k,d9 9223372036854775807 x=((o.length:Int),k,0)/\k<=x.length/\(o≠[]->qpd (x.drop k) (lsB o) (fz (vu (lsB o) (rj o)))):=fun o h1 h2 h3=>qp7 h1 h2 h3 (by omega)
  obtain⟨N,k0,e0,hv⟩:∃ v k e,d9 9223372036854775807 x=(v,k,e):=⟨_,_,_,rfl⟩
  rw[hv]at ht hO hN1 ⊢
  simp only[Bool.true_and]at ht hN1 ⊢
  obtain⟨A1,n1,c1,b1,b2,b3,b4,b5⟩:=hN1
  have hN1:nq w1 w.heap.size (x.drop k0) (decide (e0=0)):=⟨A1,n1,c1,b1,b2,b3,b4,b5⟩
  have hcell:w1.cell? ((⟨w.heap.size,0,none⟩:Addr).add 1)=some (.bool (decide (e0=0))):=by rw[au];exact aa b1 1
  have hbd:bf (x.drop k0):=fun y hy=>hb y (List.mem_of_mem_drop hy)
  refine⟨N,rfl,_,rfl,decide (e0=0),hcell,fun hok=>⟨fun hpos=>?_,fun hz=>?_⟩,fun hok=>?_⟩
  · have he0:e0=0:=by simpa using hok
    rw[hok]at hN1
    have hO2:∀ o,bf o->o.length<2^62->gy o=x->(o.length:Int)=N/\o≠[]/\qpd (x.drop k0) (lsB o) (fz (vu (lsB o) (rj o))):=by
      intro o h1 h2 h3
      obtain⟨k,e1,e2,e3⟩:=hO o h1 h2 h3
      have a1:N=(o.length:Int):=congrArg Prod.fst e1
      have a2:k0=k:=congrArg (fun t=>t.2.1) e1
      have hne:o≠[]:=fun e=>by rw[e]at a1;simp at a1;omega
      subst a2
      exact⟨a1.symm,hne,e3 hne⟩
    refine(qjs hN1 hbd (by simp;omega)).mono fun ev w2 hh=>?_
    obtain⟨A2,c2,ls,ok,p,rfl,r2,hls,hN2,k2,hcl⟩:=hh
    have K2:Kp w w2 (fun k=>w.heap.size<=k):=K1.then k2 (fun k _ e=>by omega)
    refine⟨_,_,_,rfl,?_⟩
    refine(qe0 (ls:=ls) r2 hls.symm (by omega)).mono fun ev w3 hh=>?_
    obtain⟨g3,hcase⟩:=hh
    have K3:Kp w w3 (fun k=>w.heap.size<=k):=K2.step g3 (fun k hk=>by cases hk)
    have hN3:nq w3 w.heap.size ((x.drop k0).drop p) ok:=hN2.kp (S:=fun _=>False) (Kp.of_none g3) (fun _ _ h=>h)
    obtain⟨A3,n3,c3,d1,d2,d3,d4,d5⟩:=hN3
    have hN3:nq w3 w.heap.size ((x.drop k0).drop p) ok:=⟨A3,n3,c3,d1,d2,d3,d4,d5⟩
    have hcell3:w3.cell? ((⟨w.heap.size,0,none⟩:Addr).add 1)=some (.bool ok):=by rw[au];exact aa d1 1
    have hg3:=grw w3 K3
    have hbadok:ok=false->qng x (.returned qm8) w3:=fun h=>.inr ⟨rfl,fun o h1 h2 h3=>by
      obtain⟨_,_,a3⟩:=hO2 o h1 h2 h3
      have:=(hcl _ _ a3).1
      rw[h]at this;cases this⟩
    rcases hcase with⟨hf,rfl⟩ | ⟨hR,gt,rfl,hT⟩
    · refine⟨_,_,rfl,_,rfl,ok,hcell3,fun h=>⟨hg3,hbadok h⟩,fun h=>⟨fun _=>⟨hg3,.inr ⟨rfl,fun o h1 h2 h3=>?_⟩⟩,fun h=>absurd rfl h⟩⟩
      obtain⟨_,a2,a3⟩:=hO2 o h1 h2 h3
      have e:=(hcl _ _ a3).2.1
      rw[e,(iq h1 a2).2.1]at hf
      cases hf
    refine⟨_,_,rfl,_,rfl,ok,hcell3,fun h=>⟨hg3,hbadok h⟩,fun hok3=>⟨fun h=>(by cases h),fun _=>?_⟩⟩
    have hok3':ok=true:=by simpa using hok3
    generalize hrest:(x.drop k0).drop p=rest at *
    have hrl:rest.length<=x.length:=by rw[← hrest];simp only[List.length_drop];omega
    have hrb:bf rest:=fun y hy=>by rw[← hrest]at hy;exact hb y (List.mem_of_mem_drop (List.mem_of_mem_drop hy))
    refine⟨_,rfl,_,_,_,aa d1 0,?_⟩
    have glt:=hN3.lt
    refine(qac d2 d3 (fun a ha=>(d5 a ha).imp id (fun e=>by omega))).mono fun ev w4 hh=>?_
    obtain⟨rfl,hRd,g4⟩:=hh
    have l34:w3.heap.size<w4.heap.size:=(Array.getElem?_eq_some_iff.1 hRd.blk).1
    refine⟨_,rfl,?_⟩
    refine⟨fun m n' Ao no co w5=>∃(j at_:Nat)(out:List Int),n'=N-(j:Int)/\(j:Int)<=N/\m=(N-(j:Int)).toNat/\out.length=j/\j<=at_/\bf out/\am w5 w4.heap.size 5 1 Ao no co (u8s out)/\yg w5 w3.heap.size A3 n3 c3 rest at_/\Kp w3 w5 (fun k=>w3.heap.size<=k)/\w4.heap.size<=w5.heap.size ∧
        ∀ o,bf o->o.length<2^62->gy o=x->(∃ r,(bg rest).drop at_=vu ls (rj (o.drop j))++r)/\out=o.take j,
      ⟨_,0,0,[],by omega,by omega,rfl,rfl,by omega,(fun y hy=>by cases hy),am.nil _ _ _ _,hRd,Kp.of_none g4,Nat.le_refl _,fun o h1 h2 h3=>?_⟩,?_⟩
    · obtain⟨a1,a2,a3⟩:=hO2 o h1 h2 h3
      obtain⟨_,e1,e2⟩:=hcl _ _ a3
      refine⟨?_,by simp⟩
      rw[e2,i6,e1]
      exact⟨_,rfl⟩
    rintro m n' Ao no co w5 ⟨j,at_,out,rfl,hjN,rfl,hol,hja,hbo,ho,hRd5,K5,s45,hcd⟩
    have K05:Kp w w5 (fun k=>w.heap.size<=k):=K3.then K5 (fun k hk e=>by have:=K3.size;omega)
    have hle5:=hRd5.le
    have hno:=d8 ho
    refine⟨fun hlt=>?_,fun hge=>?_⟩
    · have hT5:qdz w5 w3.heap.size gt ls:=hT.kp K5 (fun k hk e=>by omega)
      refine(qcy hT5 (Nat.le_refl _) hRd5 (by omega) hrb hR).mono fun ev w6 hh=>?_
      obtain⟨rfl,hRd6,k6⟩:=hh
      have K06:Kp w w6 (fun k=>w.heap.size<=k):=K05.then k6 (fun k _ e=>by have:=K3.size;omega)
      cases hq:re ls 15 0 0 ((bg rest).drop at_)with
      | none =>
        have htr:vz ls rest at_=(.tuple #[.int .i64 0,.bool false],at_):=by unfold vz;rw[hq]
        rw[htr]
        refine⟨_,_,rfl,fun _=>⟨grw w6 K06,.inr ⟨rfl,fun o h1 h2 h3=>?_⟩⟩,fun h=>absurd rfl h⟩
        obtain⟨a1,a2,a3⟩:=hO2 o h1 h2 h3
        obtain⟨_,e1,e2⟩:=hcl _ _ a3
        obtain⟨⟨r,f1⟩,f2⟩:=hcd o h1 h2 h3
        have hj:j<o.length:=by omega
        rw[List.drop_eq_getElem_cons hj]at f1
        have hs:=(iq h1 a2).2.2.1 o[j].toNat (by simp only[rj];exact List.mem_map_of_mem (List.getElem_mem hj))
        rw[← e1]at hs
        rw[rj,List.map_cons,mq,List.append_assoc]at f1
        rw[f1,uj hR hs]at hq
        cases hq
      | some sk =>
        obtain⟨s,k⟩:=sk
        have htr:vz ls rest at_=(.tuple #[.int .i64 (s:Int),.bool true],at_+k):=by unfold vz;rw[hq]
        rw[htr]at hRd6 ⊢
        have hlen:=qd8 _ _ _ _ _ _ _ hq
        have ho6:=ho.kp k6 (fun k hk e=>by have:=ho.block_ge k hk;omega)
        refine⟨_,_,rfl,fun h=>(by cases h),fun _=>?_⟩
        have hle6:=hRd6.le
        obtain⟨A7,n7,c7,w7,e1,e2,e3,e4⟩:=je (x:=(s:Int)) ho6 (by omega) (Nat.le_trans s45 k6.size)
        refine⟨by omega,_,_,_,w7,e1,by omega,(N-((j+1:Nat):Int)).toNat,by omega,j+1,at_+k,out++[(s:Int)],by omega,by omega,rfl,by simp;omega,by omega,?_,e2,?_,?_,?_,?_⟩
        · intro y hy
          rcases List.mem_append.1 hy with e | e
          · exact hbo y e
          · have:y=(s:Int):=by simpa using e
            omega
        · refine hRd6.kp (Kp.of_grown e3) (fun e=>by have:=ho6.block_ge _ e.symm;omega) (fun a ha=>(d5 a ha).imp id (fun e1 e=>by have:=ho6.block_ge _ e.symm;omega))
        · exact(K5.then k6 (fun k _ e=>by omega)).step e3 (fun k hk=>.inr (by have:=ho6.block_ge _ hk;omega))
        · exact Nat.le_trans s45 (Nat.le_trans k6.size e3.size)
        · intro o h1 h2 h3
          obtain⟨a1,a2,a3⟩:=hO2 o h1 h2 h3
          obtain⟨_,q1,q2⟩:=hcl _ _ a3
          obtain⟨⟨r,f1⟩,f2⟩:=hcd o h1 h2 h3
          have hj:j<o.length:=by omega
          rw[List.drop_eq_getElem_cons hj]at f1
          have hs:=(iq h1 a2).2.2.1 o[j].toNat (by simp only[rj];exact List.mem_map_of_mem (List.getElem_mem hj))
          rw[← q1]at hs
          rw[rj,List.map_cons,mq,List.append_assoc]at f1
          rw[f1,uj hR hs]at hq
          have s1:o[j].toNat=s:=by simpa using congrArg (fun q=>q.map Prod.fst) hq
          have s2:(ln ls o[j].toNat).toNat=k:=by simpa using congrArg (fun q=>q.map Prod.snd) hq
          have hoj:=h1 _ (List.getElem_mem hj)
          refine⟨⟨r,?_⟩,?_⟩
          · rw[← List.drop_drop,f1,← s2]
            have:(dl (cd ls o[j].toNat) (ln ls o[j].toNat).toNat).length=(ln ls o[j].toNat).toNat:=er _ _
            rw[show(dl (cd ls o[j].toNat) (ln ls o[j].toNat).toNat++(vu ls (List.map Int.toNat (o.drop (j+1)))++r)).drop (ln ls o[j].toNat).toNat=(vu ls (List.map Int.toNat (o.drop (j+1)))++r) by
              conv=>lhs;arg 1;rw[← this]
              exact List.drop_left]
          · rw[List.take_succ_eq_append_getElem hj,← f2]
            congr 2;omega
    · have hjN':(j:Int)=N:=by omega
      have hN5:=hN3.kp K5 (fun k hk e=>by omega)
      obtain⟨A5,n5,c5,q1,q2,q3,q4,q5⟩:=hN5
      refine⟨_,rfl,ok,by rw[au];exact aa q1 1,fun h=>absurd h hok3,fun _=>?_⟩
      refine qep (R:=fun ev w'=>w.grownBy w' none/\qng x ev w') (keepX w5 K05) hn hb ho.row hno hbo (by omega) (fun hne w' g=>⟨ab (grw w5 K05) g,.inr ⟨rfl,fun o h1 h2 h3=>?_⟩⟩) (fun he w' g=>⟨ab (grw w5 K05) g,.inl ⟨_,_,_,out,rfl,(ho.kept g).row,⟨hno,own_le ho⟩,hbo,by omega,he⟩⟩)
      obtain⟨a1,a2,a3⟩:=hO2 o h1 h2 h3
      have f2:=(hcd o h1 h2 h3).2
      rw[List.take_of_length_le (by omega)]at f2
      rw[← f2]at h3
      exact hne h3
  · refine⟨_,rfl,decide (e0=0),hcell,fun h=>(by rw[hok]at h;cases h),fun _=>?_⟩
    refine qep (R:=fun ev w'=>w.grownBy w' none/\qng x ev w') (o:=[]) (keepX w1 K1) hn hb (Row.nil _ _) rfl (fun y hy=>by cases hy) (by omega) (fun hne w' g=>⟨ab (grw w1 K1) g,.inr ⟨rfl,fun o h1 h2 h3=>?_⟩⟩) (fun he w' g=>⟨ab (grw w1 K1) g,.inl ⟨_,_,_,[],rfl,Row.nil _ _,⟨rfl,Nat.le_refl _⟩,(fun y hy=>by cases hy),by simp,he⟩⟩)
    obtain⟨k,e1,_⟩:=hO o h1 h2 h3
    have a1:N=(o.length:Int):=congrArg Prod.fst e1
    have:o=[]:=List.eq_nil_of_length_eq_zero (by omega)
    rw[this]at h3
    exact hne h3
  · refine⟨_,rfl,decide (e0=0),hcell,fun h=>⟨grw w1 K1,.inr ⟨rfl,fun o h1 h2 h3=>?_⟩⟩,fun h=>absurd hok h⟩
    obtain⟨k,e1,_⟩:=hO o h1 h2 h3
    have a1:e0=0:=congrArg (fun t=>t.2.2) e1
    rw[a1]at hok;simp at hok
end Go.Proofs.YtlieaecnllkefaaGreat
/-! archipelagoref5.Read: the walk. -/
namespace Go.Proofs.YtlieaecnllkefaaGreat
open Go Go.V Go.RowKit
set_option linter.unusedVariables false
set_option linter.unusedSimpArgs false
set_option maxHeartbeats 4000000
set_option maxRecDepth 100000
theorem qo6{ls:List Int}(hR:cl ls=true):∀ ss:List Nat,(∀ s∈ss,s<ls.length/\0<ln ls s)->ss.length<=(vu ls ss).length
 | [],_=>by simp
 | s ::ss,h=>by
  have ih:=qo6 hR ss (fun t ht=>h t (by simp[ht]))
  have:=h s (by simp)
  rw[mq,List.length_append,er,List.length_cons]
  omega
theorem ut{o x:List Int}(ho:bf o)(h:gy o=x):o.length<=8*x.length:=by
 by_cases hne:o=[]
 ·subst hne;simp
 ·obtain⟨l1,r1,s1,v1⟩:=iq ho hne
  have h1:=qo6 r1 (rj o) s1
  have h2:(fz (vu (lsB o) (rj o))).length<=x.length:=by
   rw[← h,gy,if_neg hne];simp only[List.length_append];omega
  rw[bo]at h2
  have h3:(rj o).length=o.length:=by simp
  omega
end Go.Proofs.YtlieaecnllkefaaGreat
/-! archipelagolaw7: texts, what is known. -/
namespace Go.Proofs.YtlieaecnllkefaaGreat
open Go Go.V Go.RowKit
set_option linter.unusedVariables false
set_option linter.unusedSimpArgs false
set_option maxHeartbeats 4000000
set_option maxRecDepth 100000
theorem gn(w:World)(cs:Array Value)(t:TypeId)(fr:Nat×Nat):Row (w.alloc (.cells cs t fr)) (some ⟨w.heap.size,0,none⟩) cs.toList:=by
 intro j u hj
 refine⟨_,rfl,?_⟩
 rw[au]
 have:(w.alloc (.cells cs t fr)).heap[w.heap.size]?=some (.cells cs t fr):=by
  show(w.heap.push _)[w.heap.size]?=_
  simp
 rw[aa this]
 simpa using hj
theorem qg3(w:World)(C:Array Value)(n c:Nat):Sem.run P (Go.convert 26 26 (.slice (some ⟨w.heap.size,0,none⟩) n c)) (w.alloc (.cells C 5))=.ok (.slice (some ⟨w.heap.size,0,none⟩) n c) (w.alloc (.cells C 5 (C.size,C.size+1))) :=
 Lib.run_convert_bytes_const (P:=P) w 26 5 C n c (by kernel_rfl) (by kernel_rfl)
theorem yw{w:World}{b s n c:Nat}{e:TypeId}{A:Option Addr}{xs:List Value}(h:am w b e s A n c xs):n<=c:=by
 obtain⟨_,⟨_,e1,e2,_⟩ | ⟨g,cur,_,_,_,e,_⟩⟩:=h.cases
 ·omega
 ·exact e
end Go.Proofs.YtlieaecnllkefaaGreat

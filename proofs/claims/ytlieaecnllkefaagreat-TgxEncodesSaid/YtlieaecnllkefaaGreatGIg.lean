/- Own texts, packed: G1, G3, G5, H1, H2, H3, H4, H5, H6, H7, H8, H9, H10, H11. -/
import Derived.Test.YtlieaecnllkefaaGreatGHg
import Derived.Test.YtlieaecnllkefaaGreatGFg
import Derived.Test.YtlieaecnllkefaaGreatGXg
import Derived.Test.YtlieaecnllkefaaGreatGBg
import Derived.Test.YtlieaecnllkefaaGreatGGg
import Derived.Lib.SlBytesConst
/-! archipelagolaw6: known; lengths of numbers. -/
set_option linter.unusedVariables false
set_option linter.unusedSimpArgs false
set_option maxHeartbeats 4000000
set_option maxRecDepth 100000
namespace Go.Proofs.YtlieaecnllkefaaGreat
open Go Go.V Go.RowKit
theorem sM{w:World}{A:OA}{n c:Nat}{l:List Int}(hr:aY w A (cy l))(hn:n=l.length)(hA:∀ a,A=some a->l=[]∨a.block<w.heap.size):
    Calls P 123 #[.slice A n c] w fun ev w'=>ev=.returned (.pointer (some ⟨w.heap.size,0,none⟩))/\jo w' w.heap.size A n c l 0/\w.grownBy w' none:=by
  apply vc123;dsimp only[VC123,nb,iq];have g:=World.grownBy_alloc w (.cells #[.slice A n c,.int .i64 0] 240) none;exact⟨rfl,⟨by simpa using heap_alloc_new w (.cells #[.slice A n c,.int .i64 0] 240),hr.kept_none g,hn,by omega,fun a ha=>(hA a ha).imp id (fun h=>by omega)⟩,g⟩
end Go.Proofs.YtlieaecnllkefaaGreat
/-! archipelagolaw6.CodeFree: the walk. -/
namespace Go.Proofs.YtlieaecnllkefaaGreat
open Go Go.V Go.RowKit
theorem EP(s t:Operand)(a b:Bool)(w:World):Sem.run P (do eqGuard .eql 4 s t (.bool a) (.bool b);Go.binOp .eql 4 (.bool a) (.bool b):Sem Value) w=.ok (.bool (a ==b)) w:=by
 cases a <;>cases b <;>kernel_rfl
end Go.Proofs.YtlieaecnllkefaaGreat
/-! archipelagolaw6.CodeTexts: the walk. -/
namespace Go.V
def fT(ls:List Int)(ss:List Nat):List Bool:=ss.flatMap fun s=>cN (cd ls s) (ln ls s).toNat
theorem sp(ls:List Int)(a b:List Nat):fT ls (a++b)=fT ls a++fT ls b:=by simp[fT]
theorem jK(ls:List Int)(a:Nat)(b:List Nat):fT ls (a ::b)=cN (cd ls a) (ln ls a).toNat++fT ls b:=by simp[fT]
def vO(ls:List Int)(ss:List Nat):Int:=(ss.map (ln ls)).sum
theorem ni{ls:List Int}(h:cF ls=true)(ss:List Nat):((fT ls ss).length:Int)=vO ls ss:=by
 induction ss with
 | nil=>rfl
 | cons a ss ih =>
  have:=(ey h).2.1 a;rw[jK,List.length_append,el];simp only[vO,List.map_cons,List.sum_cons]at ih ⊢;omega
theorem mM{ls:List Int}(h:cF ls=true)(ss:List Nat):0<=vO ls ss/\vO ls ss<=15*(ss.length:Int):=by
 induction ss with
 | nil=>simp[vO]
 | cons a ss ih =>
  have:=(ey h).2.1 a;simp only[vO,List.map_cons,List.sum_cons,List.length_cons]at ih ⊢;omega
end Go.V
namespace Go.Proofs.YtlieaecnllkefaaGreat
open Go Go.V Go.RowKit
end Go.Proofs.YtlieaecnllkefaaGreat
/-! Numbers in few bytes: lists alone. Plain Lean; no program. -/
namespace Go.V
def cJ(v:Nat):List Int:=if v<128 then [(v:Int)] else((v % 128+128:Nat):Int) ::cJ (v / 128)
termination_by v
decreasing_by omega
theorem iT{v:Nat}(h:v<128):cJ v=[(v:Int)]:=by unfold cJ;rw[if_pos h]
theorem kO{v:Nat}(h:¬ v<128):cJ v=((v % 128+128:Nat):Int) ::cJ (v / 128):=by rw[cJ,if_neg h]
theorem gl(v:Nat):∀ x∈cJ v,0<=x/\x<=255:=by
 induction v using Nat.strongRecOn with
 | _ v ih =>
  by_cases h:v<128
  ·rw[iT h];intro x hx;have:x=(v:Int):=by simpa using hx
   omega
  ·rw[kO h];intro x hx;rcases List.mem_cons.1 hx with e | e
   ·omega
   ·exact ih _ (by omega) x e
theorem mR(v:Nat):0<(cJ v).length:=by
 by_cases h:v<128
 ·rw[iT h];simp
 ·rw[kO h];simp
def ik(most:Int):List Int->Nat->Int->Int×Nat×Int
 | [],_,_=>(0,0,20)
 | c ::r,i,v=>if(i=9/\c>1)∨(i>0/\c=0) then(0,0,21) else
  if c≥128 then ik most r (i+1) (v+c % 128*2^(7*i)) else if v+c % 128*2^(7*i)>most then(0,0,22) else(v+c % 128*2^(7*i),i+1,0)
def dB(most:Int)(b:List Int):Int×Nat×Int:=ik most b 0 0
theorem Co(most:Int)(rest:List Int):∀(n i:Nat)(v:Int),(0<i->0<n)->n*2^(7*i)<2^64->v+n*2^(7*i)<=most->ik most (cJ n++rest) i v=(v+n*2^(7*i),i+(cJ n).length,0):=by
 intro n
 induction n using Nat.strongRecOn with
 | _ n ih =>
  intro i v Gm H0 hm;have hp:0<2^(7*i):=Nat.two_pow_pos _;by_cases h:n<128
  ·rw[iT h];show ik most ((n:Int) ::rest) i v=_;unfold ik;have h9:¬ ((i=9/\(n:Int)>1)∨(i>0/\(n:Int)=0)):=by
    rintro(⟨e,e2⟩ | ⟨e,e2⟩)
    ·subst e;have:2*2^(7*9)<=n*2^(7*9):=Nat.mul_le_mul_right _ (by omega);omega
    ·have:=Gm e;omega
   have Mr:(n:Int) % 128=(n:Int):=by omega
   rw[if_neg h9,if_neg (by omega),Mr,if_neg (by omega)];simp
  ·rw[kO h];show ik most (((n % 128+128:Nat):Int) ::(cJ (n / 128)++rest)) i v=_;unfold ik;have h9:¬ ((i=9/\((n % 128+128:Nat):Int)>1)∨(i>0/\((n % 128+128:Nat):Int)=0)):=by
    rintro(⟨e,e2⟩ | ⟨e,e2⟩)
    ·subst e;have:128*2^(7*9)<=n*2^(7*9):=Nat.mul_le_mul_right _ (by omega);omega
    ·omega
   have Mr:((n % 128+128:Nat):Int) % 128=((n % 128:Nat):Int):=by omega
   rw[if_neg h9,if_pos (by omega),Mr];have e1:2^(7*(i+1))=128*2^(7*i):=by rw[show 7*(i+1)=7*i+7 by omega,Nat.pow_add];omega
   have e1':(2:Int)^(7*(i+1))=128*2^(7*i):=by rw[show 7*(i+1)=7*i+7 by omega,Int.pow_add];omega
   have e2:n / 128*(128*2^(7*i))+n % 128*2^(7*i)=n*2^(7*i):=by
    rw[← Nat.mul_assoc,← Nat.add_mul];congr 1;omega
   have e3:v+((n % 128:Nat):Int)*2^(7*i)+((n / 128:Nat):Int)*2^(7*(i+1))=v+(n:Int)*2^(7*i):=by
    rw[e1',← Int.mul_assoc,Int.add_assoc,← Int.add_mul];congr 2;omega
   rw[ih (n / 128) (by omega) (i+1) _ (fun _=>by omega) (by rw[e1];omega) (by rw[e3];exact hm),e3];simp;omega
theorem fF{most:Int}{n:Nat}(h:(n:Int)<=most)(Qv:n<2^64)(rest:List Int):dB most (cJ n++rest)=((n:Int),(cJ n).length,0):=by
 have:=Co most rest n 0 0 (by omega) (by simpa using Qv) (by simpa using h);simpa[dB]using this
theorem xZ (most:Int):∀(b:List Int)(i:Nat)(v:Int),(∀ x∈b,0<=x)->0<=v →
    ((ik most b i v).2.2=0/\i<(ik most b i v).2.1/\(ik most b i v).2.1<=i+b.length/\0<=(ik most b i v).1/\(ik most b i v).1<=most)∨((ik most b i v).2.2≠0/\(ik most b i v).2.1=0/\(ik most b i v).1=0)
  | [],i,v,_,_=>.inr ⟨by simp[ik],rfl,rfl⟩
  | c ::r,i,v,h,hv=>by
    have hc:=h c (by simp);have hm:0<=c % 128*2^(7*i):=Int.mul_nonneg (Int.emod_nonneg _ (by omega)) (Int.le_of_lt (ez _));unfold ik;split
    · exact .inr ⟨by simp,rfl,rfl⟩
    · split
      · rcases xZ most r (i+1) (v+c % 128*2^(7*i)) (fun x hx=>h x (by simp[hx])) (by omega)with⟨e1,e2,e3,e4⟩ | e
        · exact .inl ⟨e1,by omega,by simp;omega,e4⟩
        · exact .inr e
      · split
        · exact .inr ⟨by simp,rfl,rfl⟩
        · exact .inl ⟨rfl,by simp,by simp,by simp;omega,by simp;omega⟩
theorem jP{most:Int}{b:List Int}(h:∀ x∈b,0<=x):((dB most b).2.2=0/\0<(dB most b).2.1/\(dB most b).2.1<=b.length/\0<=(dB most b).1/\(dB most b).1<=most)∨((dB most b).2.2≠0/\(dB most b).2.1=0/\(dB most b).1=0):=by
 have:=xZ most b 0 0 h (by omega);simpa[dB]using this
end Go.V
/-! Numbers in few bytes, counts, bytes held against bytes: both texts. -/
namespace Go.Proofs.YtlieaecnllkefaaGreat
open Go Go.V Go.RowKit
abbrev pD(xs:List Nat):List Value:=xs.map fun x:Nat=>Value.int .u64 (x:Int)
theorem eO{w:World}{base:Nat}{A:OA}{n c:Nat}{xs:List Int}{x:Int}(ho:aE w base 5 1 A n c (cy xs))(hn:n<=2^39)(hb:base<=w.heap.size):
    ∃ (A':OA) (n' c':Nat) (w':World),Sem.run P (Builtin.append_ #[26,26] 26 #[.slice A n c,.slice (some ⟨w.heap.size,0,none⟩) 1 1]) (w.alloc (.cells #[.int .u8 x] 5))=.ok (.slice A' n' c') w' ∧
      aE w' base 5 1 A' n' c' (cy (xs++[x]))/\w.grownBy w' (Value.slice A n c).ownBlock/\n'=n+1:=by
  have g:=World.grownBy_alloc w (.cells #[.int .u8 x] 5) none;have ro:=di w #[.int .u8 x] 5;obtain⟨A',n',c',w',h1,h2,h3,h4,_⟩:=(ho.kept g).appends (ty:=26) nj (by omega) (a:=⟨w.heap.size,0,none⟩) (m:=1) (cc:=1) (us:=cy [x]) rfl (fun j u hj=>by obtain⟨b,q1,q2⟩:=ro j u hj;cases q1;exact q2) (fun u hu=>by simp at hu;rw[hu];rfl) (by omega) (Nat.le_trans hb g.size);exact⟨A',n',c',w',h1,by simpa using h2,aA (bZ g) h4,h3⟩
theorem aO{w:World}{base:Nat}{A B:OA}{n c m d:Nat}{xs ys:List Int}(ho:aE w base 5 1 A n c (cy xs))(hB:aY w B (cy ys))(hm:m=ys.length)(hd:B=none->d=0)(hn:n+m<=2^39)(hb:base<=w.heap.size):
    ∃ (A':OA) (n' c':Nat) (w':World),Sem.run P (Builtin.append_ #[26,26] 26 #[.slice A n c,.slice B m d]) w=.ok (.slice A' n' c') w' ∧
      aE w' base 5 1 A' n' c' (cy (xs++ys))/\w.grownBy w' (Value.slice A n c).ownBlock/\n'=n+m:=by
  cases B with
  | none =>
    have:ys=[]:=by
      cases ys with
      | nil=>rfl
      | cons x l=>obtain⟨a,e,_⟩:=hB 0 _ rfl;cases e
    subst this;have RQ:=hd rfl;subst RQ;have LJ:m=0:=by simpa using hm
    subst LJ;exact⟨A,n,c,w,ho.appends_nil nj,by simpa using ho,aC _ _,rfl⟩
  | some a =>
    obtain⟨A',n',c',w',h1,h2,h3,h4,_⟩:=ho.appends (ty:=26) nj (by omega) (a:=a) (m:=m) (cc:=d) (us:=cy ys) (by simp[hm]) (fun j u hj=>by obtain⟨b,q1,q2⟩:=hB j u hj;cases q1;exact q2) (fun u hu=>by obtain⟨x,_,rfl⟩:=List.mem_map.1 hu;rfl) (by omega) hb;exact⟨A',n',c',w',h1,by simpa using h2,h4,h3⟩
theorem or128:∀ x:Nat,x<256->x ||| 128=x % 128+128:=by decide +kernel
theorem wC(v:Nat):dE .or .u8 (((v % 256:Nat)):Int) 128=((v % 128+128:Nat):Int):=by
 have e1:(BitVec.ofInt 8 ((v % 256:Nat):Int)).toNat=v % 256:=dl (by omega);have e2:(BitVec.ofInt 8 ((128:Nat):Int)).toNat=128:=dl (by omega);show IntKind.u8.wrap (((BitVec.ofInt 8 ((v % 256:Nat):Int) ||| BitVec.ofInt 8 ((128:Nat):Int)).toNat:Nat):Int)=_;rw[BitVec.toNat_or,e1,e2,or128 _ (by omega),show v % 256 % 128=v % 128 by omega];exact eR (k:=.u8) (show 0<=_/\_<=(255:Int) by omega)
theorem Ex(v:Nat):IntKind.u8.wrap (v:Int)=((v % 256:Nat):Int):=by
 show((v:Int) % 2^8)=_;omega
theorem Bn(v:Nat)(h:v<2^64):dE .and .u64 (v:Int) 127=((v % 128:Nat):Int):=by
 have e1:(BitVec.ofInt 64 (v:Int)).toNat=v:=dl h;have e2:(BitVec.ofInt 64 ((127:Nat):Int)).toNat=127:=dl (by omega);show IntKind.u64.wrap (((BitVec.ofInt 64 (v:Int) &&& BitVec.ofInt 64 ((127:Nat):Int)).toNat:Nat):Int)=_;rw[BitVec.toNat_and,e1,e2,show(127:Nat)=2^7-1 from rfl,Nat.and_two_pow_sub_one_eq_mod];exact eR (k:=.u64) (show 0<=_/\_<=(18446744073709551615:Int) by omega)
theorem C1{v:Int}(h:0<=v/\v<=255):dE .and .u8 v 127=v % 128:=by
 obtain⟨n,rfl⟩:∃ n:Nat,v=n:=⟨v.toNat,by omega⟩;have e1:(BitVec.ofInt 8 (n:Int)).toNat=n:=dl (by omega);have e2:(BitVec.ofInt 8 ((127:Nat):Int)).toNat=127:=dl (by omega);show IntKind.u8.wrap (((BitVec.ofInt 8 (n:Int) &&& BitVec.ofInt 8 ((127:Nat):Int)).toNat:Nat):Int)=_;rw[BitVec.toNat_and,e1,e2,show(127:Nat)=2^7-1 from rfl,Nat.and_two_pow_sub_one_eq_mod];rw[eR (k:=.u8) (show 0<=_/\_<=(255:Int) by omega)];omega
theorem xh{x c:Int}{j:Nat}(h0:0<=x)(hx:x<2^j)(hc:0<=c)(h:x+c*2^j<18446744073709551616):dE .or .u64 x (c*2^j)=x+c*2^j:=by
 obtain⟨n,rfl⟩:∃ n:Nat,x=n:=⟨x.toNat,by omega⟩;obtain⟨m,rfl⟩:∃ n:Nat,c=n:=⟨c.toNat,by omega⟩;have ep:((2^j:Nat):Int)=2^j:=by simp
 have em:((m*2^j:Nat):Int)=(m:Int)*2^j:=by rw[Int.natCast_mul,ep]
 rw[← em]at h ⊢;have e1:(BitVec.ofInt 64 (n:Int)).toNat=n:=dl (by omega);have e2:(BitVec.ofInt 64 ((m*2^j:Nat):Int)).toNat=m*2^j:=dl (by omega);show IntKind.u64.wrap (((BitVec.ofInt 64 (n:Int) ||| BitVec.ofInt 64 ((m*2^j:Nat):Int)).toNat:Nat):Int)=_;rw[BitVec.toNat_or,e1,e2,xi (by omega)];rw[eR (k:=.u64) (show 0<=_/\_<=(18446744073709551615:Int) by omega)];omega
def bF(l:List Nat):List Int:=l.flatMap cJ
theorem t9(v:Nat)(k:Nat):v<2^(7*k)->0<k->(cJ v).length<=k:=by
 induction k generalizing v with
 | zero=>intro _ h;omega
 | succ k ih =>
  intro h _;by_cases hv:v<128
  ·rw[iT hv];simp
  ·rw[kO hv,List.length_cons];have:0<k:=by
    rcases Nat.eq_zero_or_pos k with e | e
    ·subst e;simp at h;omega
    ·exact e
   have:=ih (v / 128) (by
    rw[show 7*(k+1)=7*k+7 by omega,Nat.pow_add]at h;exact Nat.div_lt_of_lt_mul (by omega)) this
   omega
theorem cZ{v:Nat}(h:v<2^64):(cJ v).length<=10:=t9 v 10 (Nat.lt_of_lt_of_le h (by decide)) (by omega)
theorem fI{l:List Nat}(h:∀ x∈l,x<2^64):(bF l).length<=10*l.length:=by
 induction l with
 | nil=>simp[bF]
 | cons x l ih =>
  have h1:=cZ (h x (by simp));have h2:=ih (fun y hy=>h y (by simp[hy]));simp only[bF,List.flatMap_cons,List.length_append,List.length_cons]at h2 ⊢;omega
theorem iN {w:World} {A:OA} {n c:Nat} {l:List Nat} (hr:aY w A (pD l)) (hn:n=l.length) (hb:∀ x∈l,x<2^64) (hl:n<=2^20) :
    Calls P 70 #[.slice A n c] w fun ev w'=>∃(A':OA)(n' c':Nat),ev=.returned (.slice A' n' c')/\aE w' w.heap.size 5 1 A' n' c' (cy (bF l))/\w.grownBy w' none:=by
  apply vc70;dsimp only[VC70,Br,Rd,Ix,Ap,nb]
  try simp only[aG]
  refine⟨fun m Ao no co i w1=>∃ j:Nat,i=(j:Int)/\j<=l.length/\m=l.length-j/\aE w1 w.heap.size 5 1 Ao no co (cy (bF (l.take j)))/\w.grownBy w1 none,⟨_,0,rfl,by omega,rfl,aE.nil _ _ _ _,aC _ _⟩,?_⟩;rintro m Ao no co i w1 ⟨j,rfl,hj,rfl,ho,hg⟩;have tj:(j:Int).toNat=j:=by omega
  rw[tj];refine⟨fun Ge=>?_,fun Gj=>?_⟩
  · have lj:j<l.length:=by omega
    obtain⟨a,Gy,Gv⟩:=(hr.kept_none hg) j (.int .u64 (l[j]:Int)) (by simp[lj]);have hx:=hb _ (List.getElem_mem lj);have J8:=fI (l:=l.take j) (fun x hx=>hb x (List.mem_of_mem_take hx));have Jt:(l.take j).length=j:=by simp;omega
    have IB:=cZ hx;refine⟨a,Gy,by omega,by omega,_,Gv,?_⟩;refine⟨fun m Ao no co v w2=>∃(u:Nat)(bs:List Int),v=(u:Int)/\m=u/\u<2^64/\bs++cJ u=cJ l[j]/\aE w2 w.heap.size 5 1 Ao no co (cy (bF (l.take j)++bs))/\w.grownBy w2 none,⟨_,l[j],[],rfl,rfl,hx,rfl,by simpa using ho,hg⟩,?_⟩;rintro m Ao no co v w2 ⟨u,bs,rfl,Np,hu,Ip,GV,Gn⟩;subst Np;have I6:bs.length<=10:=by
      have:=congrArg List.length Ip;rw[List.length_append]at this;omega
    have Ih:no=(bF (l.take j)++bs).length:=by have:=GV.cases.1;rw[List.length_map]at this;omega
    have Kb:no<=2^39:=by rw[Ih,List.length_append];omega
    refine⟨fun Gj=>?_,fun GK=>?_⟩
    · have Jl:¬ m<128:=by omega
      rw[Ex,wC];obtain⟨A3,n3,c3,w3,e1,e2,e3,_⟩:=eO (x:=((m % 128+128:Nat):Int)) GV Kb Gn.size;refine⟨A3,n3,c3,w3,e1,by omega,m / 128,by omega,m / 128,bs++[((m % 128+128:Nat):Int)],by omega,rfl,by omega,?_,by simpa using e2,aN Gn e3 GV.block_ge⟩;rw[← Ip,kO Jl];simp
    · have Jl:m<128:=by omega
      obtain⟨A3,n3,c3,w3,e1,e2,e3,_⟩:=eO (x:=(m:Int)) GV Kb Gn.size;refine⟨by omega,A3,n3,c3,w3,e1,by omega,l.length-(j+1),by omega,j+1,by omega,by omega,rfl,?_,aN Gn e3 GV.block_ge⟩;have:bF (l.take (j+1))=bF (l.take j)++bs++[(m:Int)]:=by
        rw[iT Jl]at Ip;rw[List.take_succ_eq_append_getElem lj,bF,List.flatMap_append,List.append_assoc,Ip];simp[bF]
      rw[this];exact e2
  · have:j=l.length:=by omega
    subst this;rw[List.take_length]at ho;exact⟨_,_,_,rfl,ho,hg⟩
theorem kg {w:World} {A:OA} {n c:Nat} {l:List Nat} (hr:aY w A (pD l)) (hn:n=l.length) (hb:∀ x∈l,x<2^64) (hl:n<=2^20) :
    Calls P 80 #[.slice A n c] w fun ev w'=>∃(A':OA)(n' c':Nat),ev=.returned (.slice A' n' c')/\aE w' w.heap.size 5 1 A' n' c' (cy (bF l))/\w.grownBy w' none:=by
  apply vc80;dsimp only[VC80,Br,Rd,Ix,Ap,nb]
  try simp only[aG]
  refine⟨fun m Ao no co i w1=>∃ j:Nat,i=(j:Int)/\j<=l.length/\m=l.length-j/\aE w1 w.heap.size 5 1 Ao no co (cy (bF (l.take j)))/\w.grownBy w1 none,⟨_,0,rfl,by omega,rfl,aE.nil _ _ _ _,aC _ _⟩,?_⟩;rintro m Ao no co i w1 ⟨j,rfl,hj,rfl,ho,hg⟩;have tj:(j:Int).toNat=j:=by omega
  rw[tj];refine⟨fun Ge=>?_,fun Gj=>?_⟩
  · have lj:j<l.length:=by omega
    obtain⟨a,Gy,Gv⟩:=(hr.kept_none hg) j (.int .u64 (l[j]:Int)) (by simp[lj]);have hx:=hb _ (List.getElem_mem lj);have J8:=fI (l:=l.take j) (fun x hx=>hb x (List.mem_of_mem_take hx));have Jt:(l.take j).length=j:=by simp;omega
    have IB:=cZ hx;refine⟨a,Gy,by omega,by omega,_,Gv,?_⟩;refine⟨fun m Ao no co v w2=>∃(u:Nat)(bs:List Int),v=(u:Int)/\m=u/\u<2^64/\bs++cJ u=cJ l[j]/\aE w2 w.heap.size 5 1 Ao no co (cy (bF (l.take j)++bs))/\w.grownBy w2 none,⟨_,l[j],[],rfl,rfl,hx,rfl,by simpa using ho,hg⟩,?_⟩;rintro m Ao no co v w2 ⟨u,bs,rfl,Np,hu,Ip,GV,Gn⟩;subst Np;have I6:bs.length<=10:=by
      have:=congrArg List.length Ip;rw[List.length_append]at this;omega
    have Ih:no=(bF (l.take j)++bs).length:=by have:=GV.cases.1;rw[List.length_map]at this;omega
    have Kb:no<=2^39:=by rw[Ih,List.length_append];omega
    refine⟨fun Gj=>?_,fun GK=>?_⟩
    · have Jl:¬ m<128:=by omega
      rw[Bn m hu];have TN:=wC (m % 128);rw[show m % 128 % 256=m % 128 by omega,show m % 128 % 128=m % 128 by omega]at TN;rw[TN];obtain⟨A3,n3,c3,w3,e1,e2,e3,_⟩:=eO (x:=((m % 128+128:Nat):Int)) GV Kb Gn.size;refine⟨by omega,A3,n3,c3,w3,e1,by omega,m / 128,by omega,m / 128,bs++[((m % 128+128:Nat):Int)],by omega,rfl,by omega,?_,by simpa using e2,aN Gn e3 GV.block_ge⟩;rw[← Ip,kO Jl];simp
    · have Jl:m<128:=by omega
      obtain⟨A3,n3,c3,w3,e1,e2,e3,_⟩:=eO (x:=(m:Int)) GV Kb Gn.size;refine⟨by omega,A3,n3,c3,w3,e1,by omega,l.length-(j+1),by omega,j+1,by omega,by omega,rfl,?_,aN Gn e3 GV.block_ge⟩;have:bF (l.take (j+1))=bF (l.take j)++bs++[(m:Int)]:=by
        rw[iT Jl]at Ip;rw[List.take_succ_eq_append_getElem lj,bF,List.flatMap_append,List.append_assoc,Ip];simp[bF]
      rw[this];exact e2
  · have:j=l.length:=by omega
    subst this;rw[List.take_length]at ho;exact⟨_,_,_,rfl,ho,hg⟩
abbrev ED(t:Int×Nat×Int):Value:=.tuple #[.int .u64 t.1,.int .i64 (t.2.1:Int),.int .i64 t.2.2]
theorem Ac{i:Nat}(h:i<=9):(0:Int)<2^(7*i)/\(2:Int)^(7*i)<=2^63:=by
 have e1:((2^(7*i):Nat):Int)=2^(7*i):=by simp
 have:=Nat.pow_le_pow_right (n:=2) (by omega) (show 7*i<=63 by omega);have:=Nat.two_pow_pos (7*i);omega
theorem vstep{v c:Int}{i:Nat}(hi:i<=9)(hc:0<=c/\c<=255)(h9:i=9->c<=1)(hv:0<=v/\v<2^(7*i)):dE .or .u64 v (c % 128*2^(7*i))=v+c % 128*2^(7*i)/\0<=c % 128*2^(7*i)/\c % 128*2^(7*i)<=18446744073709551615/\v+c % 128*2^(7*i)<2^(7*(i+1)):=by
 obtain⟨p1,p2⟩:=Ac hi;have hm:0<=c % 128/\c % 128<=127:=by omega
 have h0:0<=c % 128*2^(7*i):=Int.mul_nonneg hm.1 (Int.le_of_lt p1);have Gu:c % 128*2^(7*i)<=127*2^(7*i):=Int.mul_le_mul_of_nonneg_right hm.2 (Int.le_of_lt p1);have e1:(2:Int)^(7*(i+1))=128*2^(7*i):=by rw[show 7*(i+1)=7*i+7 by omega,Int.pow_add];omega
 have hb:v+c % 128*2^(7*i)<18446744073709551616:=by
  by_cases h:i=9
  ·subst h;have:=h9 rfl;have Ko:c % 128<=1:=by omega
   have:c % 128*2^(7*9)<=1*2^(7*9):=Int.mul_le_mul_of_nonneg_right Ko (by decide);have e:(2:Int)^(7*9)=9223372036854775808:=by decide
   rw[e]at this hv ⊢;omega
  ·have h8:i<=8:=by omega
   have e2:((2^(7*i):Nat):Int)=2^(7*i):=by simp
   have:=Nat.pow_le_pow_right (n:=2) (by omega) (show 7*i<=56 by omega);omega
 exact⟨xh hv.1 hv.2 hm.1 hb,h0,by omega,by rw[e1];omega⟩
theorem mH {w:World} {A:OA} {n c:Nat} {b:List Int} {most:Int} (hr:aY w A (cy b)) (hn:n=b.length) (hb:∀ x∈b,0<=x/\x<=255) (hl:n<=2^40) :
    Calls P 120 #[.slice A n c,.int .u64 most] w fun ev w'=>ev=.returned (ED (dB most b))/\w.grownBy w' none:=by
  apply vc120;dsimp only[VC120,rt,Br,Bb,Rd,Ix,iq]
  try simp only[aG]
  refine⟨fun m v i w1=>∃ j:Nat,i=(j:Int)/\j<=b.length/\m=b.length-j/\j<=9/\0<=v/\v<2^(7*j)/\dB most b=ik most (b.drop j) j v/\w.grownBy w1 none,⟨_,0,rfl,by omega,rfl,by omega,by omega,by simp,rfl,aC _ _⟩,?_⟩;rintro m v i w1 ⟨j,rfl,hj,rfl,VH,KR,KE,GY,hg⟩;have tj:(j:Int).toNat=j:=by omega
  have t7:(7*(j:Int)).toNat=7*j:=by omega
  have m64:min (7*j) 64=7*j:=by omega
  rw[tj,t7,m64];refine⟨fun Ge=>?_,fun Gj=>?_⟩
  · have lj:j<b.length:=by omega
    obtain⟨a,Gy,Gv⟩:=(hr.kept_none hg) j (.int .u8 b[j]) (by simp[lj]);have hc:=hb _ (List.getElem_mem lj);rw[List.drop_eq_getElem_cons lj]at GY;rw[ik]at GY;refine⟨a,Gy,by omega,by omega,_,Gv,fun q w2=>w2=w1/\(q=true↔(j=9/\b[j]>1)∨(j>0/\b[j]=0)),⟨fun h9=>⟨fun h1=>⟨rfl,by simp;omega⟩,fun h1=>⟨fun h0=>⟨rfl,by simp;omega⟩,fun h0=>⟨rfl,by simp;omega⟩⟩⟩,fun h9=>⟨fun h0=>⟨rfl,by simp;omega⟩,fun h0=>⟨rfl,by simp;omega⟩⟩⟩,?_⟩;rintro q w2 ⟨rfl,hq⟩;refine⟨fun h=>⟨?_,hg⟩,fun h=>?_⟩
    · rw[if_pos (hq.1 h)]at GY;rw[GY];rfl
    · have Vr:¬ ((j=9/\b[j]>1)∨(j>0/\b[j]=0)):=fun e=>by rw[hq.2 e]at h;cases h
      rw[if_neg Vr]at GY;rw[C1 hc];obtain⟨s1,s2,s3,s4⟩:=vstep VH hc (fun e=>by omega) ⟨KR,KE⟩;rw[s1];refine⟨by omega,by omega,⟨by omega,by omega,by omega⟩,fun Gj=>?_,fun GK=>⟨fun hm=>⟨?_,hg⟩,fun hm=>⟨by omega,?_,hg⟩⟩⟩
      · rw[if_pos Gj]at GY;exact⟨by omega,b.length-(j+1),by omega,j+1,by omega,by omega,rfl,by omega,by omega,s4,GY,hg⟩
      · rw[if_neg GK,if_pos hm]at GY;rw[GY];rfl
      · rw[if_neg GK,if_neg hm]at GY;rw[GY];rfl
  · have:j=b.length:=by omega
    subst this;rw[List.drop_length]at GY;rw[GY];exact⟨rfl,hg⟩
theorem pR{zs:List Int}{k:Nat}(h:k<zs.length):(aT zs)[k]?=some (.int .i64 (zs.getD k 0)):=by
 simp[List.getD_eq_getElem?_getD,h]
theorem uw(zs:List Int)(k:Nat)(v:Int):(aT zs).set k (.int .i64 v)=aT (zs.set k v):=by simp[List.map_set]
def pu(b:List Int):List Int:=eu (b.map Int.toNat) (List.replicate 256 0)
theorem zl(b:List Int):(pu b).length=256:=by rw[pu,dC];simp
theorem vA{w:World}{A:OA}{n c:Nat}{b:List Int}(hr:aY w A (cy b))(hn:n=b.length)(hb:∀ x∈b,0<=x/\x<=255)(hl:n<=2^40):
    Calls P 111 #[.slice A n c] w fun ev w'=>∃(A':OA)(n' c':Nat),ev=.returned (.slice A' n' c')/\cR w' w.heap.size 3 A' n' c' (aT (pu b))/\w.grownBy w' none:=by
  apply vc111;dsimp only[VC111,Wt,Br,Rd,Ix,iq]
  try simp only[aG]
  obtain⟨w1,Ie,Gg,g1⟩:=jd (P:=P) (w:=w) ja (by omega) (m:=256) (by omega);refine⟨_,_,_,w1,Ie,?_⟩;have hA:∀ a,A=some a->b=[]∨a.block<w.heap.size:=fun a ha=>by
    by_cases e:b=[]
    · exact .inl e
    · obtain⟨q,e1,e2⟩:=hr.blk (by simpa using e);rw[ha]at e1;cases e1;exact .inr e2
  refine⟨fun m i w2=>∃ j:Nat,i=(j:Int)/\j<=b.length/\m=b.length-j/\cY w2 w.heap.size 3 256 (aT (eu ((b.take j).map Int.toNat) (List.replicate 256 0)))/\w1.grownBy w2 (some w.heap.size),
    ⟨_,0,rfl,by omega,rfl,by simpa[eu,aT]using Gg,aC _ _⟩,?_⟩
  rintro m i w2 ⟨j,rfl,hj,rfl,ho,hg⟩;have tj:(j:Int).toNat=j:=by omega
  rw[tj];have QB:(eu ((b.take j).map Int.toNat) (List.replicate 256 0)).length=256:=by rw[dC];simp
  refine⟨fun Ge=>?_,fun Gj=>?_⟩
  · have lj:j<b.length:=by omega
    have hc:=hb _ (List.getElem_mem lj);have rowb:aY w2 A (cy b):=(hr.kept_none g1).kept hg (fun a ha=>by
      rcases hA a ha with e | e
      · rw[e]at lj;simp at lj
      · simp;omega)
    obtain⟨a,Gy,Gv⟩:=rowb j (.int .u8 b[j]) (by simp[lj]);have hs:b[j].toNat<256:=by omega
    have Gk:=ho.cell (j:=b[j].toNat) (u:=.int .i64 ((eu ((b.take j).map Int.toNat) (List.replicate 256 0)).getD b[j].toNat 0)) (pR (by omega));have GW:=gx ((b.take j).map Int.toNat) (xs:=List.replicate 256 0) (B:=0) (by simp) (by omega);have hv:=GW ((eu ((b.take j).map Int.toNat) (List.replicate 256 0)).getD b[j].toNat 0) (by
      rw[List.getD_eq_getElem?_getD,List.getElem?_eq_getElem (by omega)];exact List.getElem_mem _)
    have JR:((b.take j).map Int.toNat).length=j:=by simp;omega
    refine⟨a,Gy,by omega,by omega,_,Gv,_,rfl,by omega,by omega,_,Gk,by omega,_,rfl,by omega,by omega,⟨_,Gk⟩,ho.notFrozen (aL _ _),by omega,b.length-(j+1),by omega,j+1,by omega,by omega,rfl,?_,bI hg (aL _ _) _⟩;rw[List.take_succ_eq_append_getElem lj,List.map_append,gV];have GU:=ho.set (j:=b[j].toNat) (by rw[List.length_map];omega) (.int .i64 ((eu ((b.take j).map Int.toNat) (List.replicate 256 0)).getD b[j].toNat 0+1));rw[uw]at GU;exact GU
  · have:j=b.length:=by omega
    subst this;rw[List.take_length]at ho;have h5:=ho.ownsRow (Nat.le_refl _) (by simp only[maxLen];omega);have Mu:(aT (eu (b.map Int.toNat) (List.replicate 256 0))).length=256:=by simp[aT,dC]
    rw[Mu]at h5;exact⟨_,_,_,rfl,h5,aN g1 hg (by intro k hk;cases hk;omega)⟩
theorem tV{w:World}{A:OA}{n c:Nat}{b:List Int}(hr:aY w A (cy b))(hn:n=b.length)(hb:∀ x∈b,0<=x/\x<=255)(hl:n<=2^40):
    Calls P 118 #[.slice A n c] w fun ev w'=>∃(A':OA)(n' c':Nat),ev=.returned (.slice A' n' c')/\cR w' w.heap.size 3 A' n' c' (aT (pu b))/\w.grownBy w' none:=by
  apply vc118;dsimp only[VC118,Wt,Br,Rd,Ix,iq]
  try simp only[aG]
  obtain⟨w1,Ie,Gg,g1⟩:=jd (P:=P) (w:=w) ja (by omega) (m:=256) (by omega);refine⟨_,_,_,w1,Ie,?_⟩;have hA:∀ a,A=some a->b=[]∨a.block<w.heap.size:=fun a ha=>by
    by_cases e:b=[]
    · exact .inl e
    · obtain⟨q,e1,e2⟩:=hr.blk (by simpa using e);rw[ha]at e1;cases e1;exact .inr e2
  refine⟨fun m i w2=>∃ j:Nat,i=(j:Int)/\j<=b.length/\m=b.length-j/\cY w2 w.heap.size 3 256 (aT (eu ((b.take j).map Int.toNat) (List.replicate 256 0)))/\w1.grownBy w2 (some w.heap.size),
    ⟨_,0,rfl,by omega,rfl,by simpa[eu,aT]using Gg,aC _ _⟩,?_⟩
  rintro m i w2 ⟨j,rfl,hj,rfl,ho,hg⟩;have tj:(j:Int).toNat=j:=by omega
  rw[tj];have QB:(eu ((b.take j).map Int.toNat) (List.replicate 256 0)).length=256:=by rw[dC];simp
  refine⟨fun Ge=>?_,fun Gj=>?_⟩
  · have lj:j<b.length:=by omega
    have hc:=hb _ (List.getElem_mem lj);have rowb:aY w2 A (cy b):=(hr.kept_none g1).kept hg (fun a ha=>by
      rcases hA a ha with e | e
      · rw[e]at lj;simp at lj
      · simp;omega)
    obtain⟨a,Gy,Gv⟩:=rowb j (.int .u8 b[j]) (by simp[lj]);have hs:b[j].toNat<256:=by omega
    have Gk:=ho.cell (j:=b[j].toNat) (u:=.int .i64 ((eu ((b.take j).map Int.toNat) (List.replicate 256 0)).getD b[j].toNat 0)) (pR (by omega));have GW:=gx ((b.take j).map Int.toNat) (xs:=List.replicate 256 0) (B:=0) (by simp) (by omega);have hv:=GW ((eu ((b.take j).map Int.toNat) (List.replicate 256 0)).getD b[j].toNat 0) (by
      rw[List.getD_eq_getElem?_getD,List.getElem?_eq_getElem (by omega)];exact List.getElem_mem _)
    have JR:((b.take j).map Int.toNat).length=j:=by simp;omega
    refine⟨a,Gy,by omega,by omega,_,Gv,_,rfl,by omega,by omega,_,Gk,by omega,_,rfl,by omega,by omega,⟨_,Gk⟩,ho.notFrozen (aL _ _),by omega,b.length-(j+1),by omega,j+1,by omega,by omega,rfl,?_,bI hg (aL _ _) _⟩;rw[List.take_succ_eq_append_getElem lj,List.map_append,gV];have GU:=ho.set (j:=b[j].toNat) (by rw[List.length_map];omega) (.int .i64 ((eu ((b.take j).map Int.toNat) (List.replicate 256 0)).getD b[j].toNat 0+1));rw[uw]at GU;exact GU
  · have:j=b.length:=by omega
    subst this;rw[List.take_length]at ho;have h5:=ho.ownsRow (Nat.le_refl _) (by simp only[maxLen];omega);have Mu:(aT (eu (b.map Int.toNat) (List.replicate 256 0))).length=256:=by simp[aT,dC]
    rw[Mu]at h5;exact⟨_,_,_,rfl,h5,aN g1 hg (by intro k hk;cases hk;omega)⟩
theorem jm{w:World}{A B:OA}{n c m d:Nat}{a b:List Int}(hA:aY w A (cy a))(hn:n=a.length)(hB:aY w B (cy b))(hm:m=b.length)(ha:∀ x∈a,0<=x/\x<=255)(hb:∀ x∈b,0<=x/\x<=255):
    Calls P 50 #[.slice A n c,.slice B m d] w fun ev w'=>ev=.returned (.bool (decide (a=b)))/\w'=w:=by
  apply vc50;dsimp only[VC50,Eg,Cv];refine⟨_,fp hA hn,_,fp hB hm,_,fun w=>Dq _ _ _ _ w,?_,rfl⟩;have:decide (rq a=rq b)=decide (a=b):=by
    rw[decide_eq_decide];exact⟨Cp ha hb,fun h=>by rw[h]⟩
  rw[this]
end Go.Proofs.YtlieaecnllkefaaGreat
/-! Bytes in fewer ones: lists alone. -/
namespace Go.Proofs.YtlieaecnllkefaaGreat
open Go Go.V Go.RowKit
abbrev aW(b:List Int):Prop:=∀ x∈b,0<=x/\x<=255
abbrev eZ(b:List Int):List Nat:=b.map Int.toNat
def lw(b:List Int):List Int:=dx (pu b) 15
def dI:List Int->Nat->Nat->List Int
 | [],_,_=>[]
 | x ::l,s,nx=>if 0<x then cJ (s-nx)++(cJ x.toNat++dI l (s+1) (s+1)) else dI l (s+1) nx
def dj(b:List Int):List Int:=if b=[] then cJ 0 else cJ b.length++(cJ (de (lw b))++(dI (lw b) 0 0++dS (fT (lw b) (eZ b))))
theorem FS:cC 15=15:=by decide
theorem DX(b:List Int){s:Nat}(hs:s<256):(pu b).getD s 0=((eZ b).count s:Int):=by
 rw[pu,vb _ _ _ (by simpa using hs)];have:(List.replicate 256 (0:Int)).getD s 0=0:=by
  rw[List.getD_eq_getElem?_getD,List.getElem?_replicate];split <;>rfl
 simp only[eZ];omega
theorem uJ(p:Nat->Bool):∀ n:Nat,(((List.range n).filter p).length:Int)=aQ n (fun s=>if p s=true then 1 else 0)
 | 0=>by simp[aQ]
 | n+1=>by
  rw[List.range_succ,List.filter_append,List.length_append];have:=uJ p n;simp only[aQ];by_cases h:p n=true
  ·simp[h];omega
  ·simp[h];omega
theorem Af{ls xs:List Int}(hl:ls.length=xs.length)(h:∀ s,s<xs.length->(0<ln ls s↔0<xs.getD s 0)):(jq ls).length=(aK xs).length:=by
 have h1:=uJ (fun s=>decide (0<ln ls s)) ls.length;have h2:=kr xs;have h3:aQ ls.length (fun s=>if decide (0<ln ls s)=true then(1:Int) else 0)=PS xs (fun _=>1):=by
  unfold PS;rw[hl];apply bS;intro s hs;have:=h s hs;by_cases e:0<ln ls s
  ·rw[if_pos (by simpa using e),if_pos (this.1 e)]
  ·have e2:¬ 0<xs.getD s 0:=fun q=>e (this.2 q);simp only[e,decide_false,if_neg e2,Bool.false_eq_true,if_false]
 show(((List.range ls.length).filter fun s=>decide (0<ln ls s)).length)=_;omega
theorem CU{xs:List Int}{s:Nat}(hs:s<xs.length)(hp:0<xs.getD s 0):1<=(aK xs).length:=by
 have h2:=kr xs;have h3:=gz (fun _=>(1:Int)) hs;have h5:aQ xs.length (fun j=>if j=s then(1:Int) else 0)<=PS xs (fun _=>1):=by
  apply jc;intro i hi;by_cases e1:i=s
  ·subst e1;simp only[hp,if_true];omega
  ·simp only[e1,if_false];split <;>omega
 rw[h3]at h5;omega
theorem Ay{xs:List Int}(h:xs.length=256)(h1:1<=(aK xs).length):cF (dx xs 15)=true:=by
 have IG:=fZ xs;have hn:(aK xs).length<=2^cC 15:=by rw[FS];omega
 have hm:1<=cC 15:=by rw[FS];omega
 have Gi:(dx xs 15).length=xs.length:=lR (by omega) hn;have Gu:=fun s (hs:s<xs.length)=>BO (most:=15) (by omega) hn hm hs;rw[FS]at Gu;have Gq:∀ x∈dx xs 15,0<=x/\x<=15:=by
  intro x hx;obtain⟨s,hs,rfl⟩:=List.mem_iff_getElem.1 hx;have:=Gu s (by omega);have e:(dx xs 15).getD s 0=(dx xs 15)[s]:=by simp[List.getD_eq_getElem?_getD,hs]
  omega
 unfold cF;have a1:decide ((dx xs 15).length<=256)=true:=by simp;omega
 have a2:(dx xs 15).all (fun x=>decide (0<=x/\x<=15))=true:=by
  rw[List.all_eq_true];intro x hx;simpa using Gq x hx
 rw[a1,a2,Bool.true_and,Bool.true_and];by_cases h2:2<=(aK xs).length
 ·have:=DE (most:=15) (by omega) h2 hn hm (by rw[FS];omega);simp[this]
 ·have ID:(aK xs).length=1:=by omega
  have hp:=Af Gi (fun s hs=>(Gu s hs).2.2);have Px:(dx xs 15).all (fun x=>decide (x<=1))=true:=by
   rw[List.all_eq_true];intro x hx;obtain⟨s,hs,rfl⟩:=List.mem_iff_getElem.1 hx;have e:(dx xs 15).getD s 0=(dx xs 15)[s]:=by simp[List.getD_eq_getElem?_getD,hs]
   rw[← e,qJ (by omega) hn (by omega)];obtain⟨c,hc⟩:=List.length_eq_one_iff.1 ID;have Nv:(bY xs (cC 15)).length=1:=by
    unfold bY;rw[if_pos ID,hc];have:=(nr (xs:=xs) (c:=c) (by rw[hc];simp)).1;simp[this]
   have:=List.count_le_length (a:=s) (l:=bY xs (cC 15));simp;omega
  rw[Px,hp,ID];simp
theorem fo{b:List Int}(h:aW b)(Gh:b≠[]):(lw b).length=256/\cF (lw b)=true/\(∀ x∈eZ b,x<(lw b).length/\0<ln (lw b) x)/\(∀ v∈lw b,0<=v/\v<=15):=by
 have hl:=zl b;have He:∀ x∈eZ b,x<256/\0<(pu b).getD x 0:=by
  intro x hx;obtain⟨y,hy,rfl⟩:=List.mem_map.1 hx;have:=h y hy;refine⟨by omega,?_⟩;rw[DX b (by omega)];have:=List.count_pos_iff.2 hx;omega
 have h1:1<=(aK (pu b)).length:=by
  obtain⟨y,t,rfl⟩:=List.exists_cons_of_ne_nil Gh;have:=He y.toNat (by simp);exact CU (s:=y.toNat) (by omega) this.2
 have hr:=Ay hl h1;have IG:=fZ (pu b);have hn:(aK (pu b)).length<=2^cC 15:=by rw[FS];omega
 have hm:1<=cC 15:=by rw[FS];omega
 have Gi:(lw b).length=256:=by rw[lw,lR (by omega) hn,hl]
 have Gu:=fun s (hs:s<(pu b).length)=>BO (most:=15) (by omega) hn hm hs;rw[FS]at Gu;refine⟨Gi,hr,fun x hx=>⟨by have:=He x hx;omega,((Gu x (by have:=He x hx;omega)).2.2).2 (He x hx).2⟩,?_⟩;intro v hv;obtain⟨s,hs,rfl⟩:=List.mem_iff_getElem.1 hv;have:=Gu s (by omega);have e:(dx (pu b) 15).getD s 0=(lw b)[s]:=by
  show(lw b).getD s 0=_;simp[List.getD_eq_getElem?_getD,hs]
 omega
theorem nM:∀(l:List Int)(s nx:Nat),nx<=s->0<de l->∃(i:Nat)(x:Int),l[i]?=some x/\0<x/\(∀ j y,j<i->l[j]?=some y->¬ 0<y) ∧
    dI l s nx=cJ (s+i-nx)++(cJ x.toNat++dI (l.drop (i+1)) (s+i+1) (s+i+1))/\de l=1+de (l.drop (i+1))
  | [],s,nx,_,h=>by simp[de]at h
  | x ::l,s,nx,Gu,h=>by
    by_cases hx:0<x
    · refine⟨0,x,rfl,hx,fun j y hj=>by omega,?_,?_⟩
      · simp[dI,hx]
      · simp[de,hx];omega
    · have hp:de (x ::l)=de l:=by simp[de,hx]
      obtain⟨i,y,h1,h2,h3,h4,h5⟩:=nM l (s+1) nx (by omega) (by omega);refine⟨i+1,y,by simpa using h1,h2,?_,?_,?_⟩
      · intro j z hj hz;cases j with
        | zero=>simp at hz;subst hz;exact hx
        | succ j=>exact h3 j z (by omega) (by simpa using hz)
      · rw[dI,if_neg hx,h4];simp only[List.drop_succ_cons];rw[show s+1+i-nx=s+(i+1)-nx by omega,show s+1+i+1=s+(i+1)+1 by omega]
      · rw[hp,h5];simp
theorem pT:∀(l:List Int)(s nx:Nat),de l=0->dI l s nx=[]/\∀ x∈l,¬ 0<x
 | [],s,nx,_=>by simp[dI]
 | x ::l,s,nx,h=>by
  have hx:¬ 0<x:=by intro hx;simp[de,hx]at h
  have hp:de l=0:=by simpa[de,hx]using h
  obtain⟨h1,h2⟩:=pT l (s+1) nx hp;refine⟨by rw[dI,if_neg hx,h1],fun y hy=>?_⟩;rcases List.mem_cons.1 hy with e | e
  ·rw[e];exact hx
  ·exact h2 y e
def qy(ls:List Int)(k:Nat):List Int:=ls.take k++List.replicate (256-k) 0
theorem kc{ls:List Int}{k:Nat}(hl:ls.length=256)(hk:k<=256):(qy ls k).length=256:=by simp[qy];omega
theorem tE{ls:List Int}{k j:Nat}(hl:ls.length=256)(hk:k<=256)(hj:j<256):(qy ls k)[j]?=some (if j<k then ln ls j else 0):=by
 unfold qy;by_cases h:j<k
 ·rw[List.getElem?_append_left (by simp;omega),List.getElem?_take,if_pos h,if_pos h,ln,List.getD_eq_getElem?_getD,List.getElem?_eq_getElem (by omega)];rfl
 ·rw[List.getElem?_append_right (by simp;omega),List.getElem?_replicate,if_neg h,if_pos (by simp;omega)]
theorem Cg(ls:List Int):qy ls 0=List.replicate 256 0:=by simp[qy]
theorem Ch{ls:List Int}{k i:Nat}{x:Int}(hl:ls.length=256)(hr:∀ v∈ls,0<=v)(hk:k<=256)(hi:(ls.drop k)[i]?=some x)(hz:∀ j y,j<i->(ls.drop k)[j]?=some y->¬ 0<y):k+i<256/\(qy ls k).set (k+i) x=qy ls (k+i+1):=by
 rw[List.getElem?_drop]at hi;have Ge:=(List.getElem?_eq_some_iff.1 hi).1;refine⟨by omega,?_⟩;apply List.ext_getElem?;intro j;by_cases hj:j<256
 ·rw[List.getElem?_set,tE hl hk hj,tE hl (by omega) hj];by_cases e:k+i=j
  ·subst e;rw[if_pos rfl,if_pos (by rw[kc hl hk];omega),if_pos (by omega),ln,List.getD_eq_getElem?_getD,hi];rfl
  ·rw[if_neg e];by_cases h1:j<k
   ·rw[if_pos h1,if_pos (by omega)]
   ·rw[if_neg h1];by_cases h2:j<k+i+1
    ·rw[if_pos h2];have Hb:j<ls.length:=by omega
     have:=hz (j-k) ls[j] (by omega) (by rw[List.getElem?_drop,show k+(j-k)=j by omega];simp[Hb]);have h0:=hr ls[j] (List.getElem_mem Hb);have:ln ls j=ls[j]:=by simp[ln,List.getD_eq_getElem?_getD,Hb]
     congr 1;omega
    ·rw[if_neg h2]
 ·rw[List.getElem?_eq_none (by rw[List.length_set,kc hl hk];omega),List.getElem?_eq_none (by rw[kc hl (by omega)];omega)]
theorem Dc{ls:List Int}{k:Nat}(hl:ls.length=256)(hr:∀ v∈ls,0<=v)(hk:k<=256)(hz:∀ x∈ls.drop k,¬ 0<x):qy ls k=ls:=by
 apply List.ext_getElem?;intro j;by_cases hj:j<256
 ·rw[tE hl hk hj];have Hb:j<ls.length:=by omega
  have e:ln ls j=ls[j]:=by simp[ln,List.getD_eq_getElem?_getD,Hb]
  rw[List.getElem?_eq_getElem Hb,← e];by_cases h:j<k
  ·rw[if_pos h]
  ·rw[if_neg h];have h0:=hr ls[j] (List.getElem_mem Hb);have hm:ls[j]∈ls.drop k:=by
    rw[List.mem_iff_getElem?];exact⟨j-k,by rw[List.getElem?_drop,show k+(j-k)=j by omega];simp[Hb]⟩
   have:=hz _ hm;congr 1;omega
 ·rw[List.getElem?_eq_none (by rw[kc hl hk];omega),List.getElem?_eq_none (by omega)]
theorem jT{u v:Nat}{s t:List Int}(hu:u<2^64)(hv:v<2^64)(h:cJ u++s=cJ v++t):u=v/\s=t:=by
 have h1:=fF (most:=2^64) (n:=u) (by omega) hu s;have h2:=fF (most:=2^64) (n:=v) (by omega) hv t;rw[h]at h1;rw[h1]at h2;have:u=v:=by have:=congrArg Prod.fst h2;simp at this;omega
 subst this;exact⟨rfl,List.append_cancel_left h⟩
end Go.Proofs.YtlieaecnllkefaaGreat
/-! Bytes in fewer ones: no text begins as another. -/
namespace Go.Proofs.YtlieaecnllkefaaGreat
open Go Go.V Go.RowKit
theorem yS:∀(n:Nat)(l l':List Int)(k:Nat)(a b:List Int),de l=n->de l'=n->l.length=l'.length->k+l.length<=256->(∀ v∈l,0<=v/\v<=15)->(∀ v∈l',0<=v/\v<=15)->dI l k k++a=dI l' k k++b->l=l'/\a=b
 | 0,l,l',k,a,b,h,h',hl,hk,hr,Ly,he=>by
  obtain⟨e1,z1⟩:=pT l k k h;obtain⟨e2,z2⟩:=pT l' k k h';rw[e1,e2]at he;refine⟨?_,by simpa using he⟩;have z:∀(q:List Int),(∀ v∈q,0<=v/\v<=15)->(∀ v∈q,¬ 0<v)->q=List.replicate q.length 0:=fun q h1 h2=>by
   rw[List.eq_replicate_iff];exact⟨rfl,fun v hv=>by have:=h1 v hv;have:=h2 v hv;omega⟩
  rw[z l hr z1,z l' Ly z2,hl]
 | n+1,l,l',k,a,b,h,h',hl,hk,hr,Ly,he=>by
  obtain⟨i,x,h1,h2,h3,h4,h5⟩:=nM l k k (Nat.le_refl _) (by omega);obtain⟨i',x',IA,Kx,Uh,SA,YK⟩:=nM l' k k (Nat.le_refl _) (by omega);have hi:=(List.getElem?_eq_some_iff.1 h1).1;have KZ:=(List.getElem?_eq_some_iff.1 IA).1;have hx:=hr x (List.mem_of_getElem? h1);have Ha:=Ly x' (List.mem_of_getElem? IA);rw[h4,SA,List.append_assoc,List.append_assoc,List.append_assoc,List.append_assoc]at he;obtain⟨e1,Tz⟩:=jT (by omega) (by omega) he;obtain⟨e2,We⟩:=jT (by omega) (by omega) Tz;clear he Tz;have ei:i=i':=by omega
  have ex:x=x':=by omega
  subst ei ex;obtain⟨ed,ea⟩:=yS n (l.drop (i+1)) (l'.drop (i+1)) (k+i+1) a b (by omega) (by omega) (by simp[hl]) (by simp;omega) (fun v hv=>hr v (List.mem_of_mem_drop hv)) (fun v hv=>Ly v (List.mem_of_mem_drop hv)) We;refine⟨?_,ea⟩;apply List.ext_getElem?;intro j;by_cases hj:j<i
  ·have jl:j<l.length:=by omega
   have jl':j<l'.length:=by omega
   have a1:=h3 j l[j] hj (by simp[jl]);have a2:=Uh j l'[j] hj (by simp[jl']);have b1:=hr _ (List.getElem_mem jl);have b2:=Ly _ (List.getElem_mem jl');rw[List.getElem?_eq_getElem jl,List.getElem?_eq_getElem jl'];congr 1;omega
  ·by_cases e:j=i
   ·subst e;rw[h1,IA]
   ·have:=congrArg (fun q=>q[j-(i+1)]?) ed;simp only[List.getElem?_drop]at this
    rwa [show i+1+(j-(i+1))=j by omega]at this
theorem wF(a b:List Int)(i:Nat):eV (a++b) i=if i<8*a.length then eV a i else eV b (i-8*a.length):=by
 unfold eV;by_cases h:i<8*a.length
 ·rw[if_pos h,List.getD_eq_getElem?_getD,List.getD_eq_getElem?_getD,List.getElem?_append_left (by omega)]
 ·rw[if_neg h,List.getD_eq_getElem?_getD,List.getD_eq_getElem?_getD,List.getElem?_append_right (by omega)];rw[show(i-8*a.length) / 8=i / 8-a.length by omega,show(i-8*a.length) % 8=i % 8 by omega]
theorem rj(a b:List Int):aZ (a++b)=aZ a++aZ b:=by
 apply List.ext_getElem?;intro j;unfold aZ;simp only[List.getElem?_append,List.getElem?_map,List.length_map,List.length_range,List.length_append];by_cases h:j<8*a.length
 ·rw[if_pos h,List.getElem?_range (by omega),List.getElem?_range (by omega)];simp[wF,h]
 ·rw[if_neg h];by_cases h2:j<8*(a.length+b.length)
  ·rw[List.getElem?_range h2,List.getElem?_range (by omega)];simp[wF,h]
  ·rw[List.getElem?_eq_none (by simp;omega),List.getElem?_eq_none (by simp;omega)];rfl
theorem BY{ls:List Int}(hR:cF ls=true):∀(o b:List Nat)(s t:List Bool),o.length=b.length->(∀ x∈o,x<ls.length/\0<ln ls x)->(∀ x∈b,x<ls.length/\0<ln ls x)->fT ls o++s=fT ls b++t->o=b
 | [],b,s,t,hl,_,_,_=>by cases b with
  | nil=>rfl
  | cons=>simp at hl
 | x ::o,[],s,t,hl,_,_,_=>by simp at hl
 | x ::o,y ::b,s,t,hl,ho,hb,he=>by
  rw[jK,jK,List.append_assoc,List.append_assoc]at he;have h1:=nG hR (ho x (by simp)) (fT ls o++s);have h2:=nG hR (hb y (by simp)) (fT ls b++t);rw[he,h2]at h1;have e:y=x:=by simpa using congrArg (fun q=>q.map Prod.fst) h1
  subst e;have:=BY hR o b s t (by simpa using hl) (fun z hz=>ho z (by simp[hz])) (fun z hz=>hb z (by simp[hz])) (List.append_cancel_left he);rw[this]
theorem EF{o b:List Int}(ho:aW o)(hb:aW b)(h:eZ o=eZ b):o=b:=by
 have e:∀ q:List Int,aW q->(eZ q).map (fun n:Nat=>(n:Int))=q:=by
  intro q hq;rw[List.map_map]
  conv=>rhs;rw[← List.map_id q]
  apply List.map_congr_left;intro x hx;have:=hq x hx;simp;omega
 rw[← e o ho,← e b hb,h]
theorem uc{o b s t:List Int}(ho:aW o)(hb:aW b)(HB:o.length<2^64)(I6:b.length<2^64)(h:dj o++s=dj b++t):o=b:=by
 have Gi:o.length=b.length:=by
  unfold dj at h;have e:∀ q:List Int,∃ r,(if q=[] then cJ 0 else cJ q.length++(cJ (de (lw q))++(dI (lw q) 0 0++dS (fT (lw q) (eZ q)))))=cJ q.length++r:=by
   intro q;by_cases hq:q=[]
   ·exact⟨[],by simp[hq]⟩
   ·exact⟨_,if_neg hq⟩
  obtain⟨r1,e1⟩:=e o;obtain⟨r2,e2⟩:=e b;rw[e1,e2,List.append_assoc,List.append_assoc]at h;exact(jT HB I6 h).1
 by_cases Qc:o=[]
 ·subst Qc;simp at Gi;exact(List.eq_nil_of_length_eq_zero Gi.symm).symm
 ·have Le:b≠[]:=fun e=>by subst e;simp at Gi;exact Qc Gi
  unfold dj at h;rw[if_neg Qc,if_neg Le]at h;simp only[List.append_assoc]at h;obtain⟨_,h⟩:=jT HB I6 h;obtain⟨l1,r1,s1,v1⟩:=fo ho Qc;obtain⟨l2,r2,s2,v2⟩:=fo hb Le;have p1:=ki (lw o);have p2:=ki (lw b);obtain⟨hp,h⟩:=jT (by omega) (by omega) h;obtain⟨hl,h⟩:=yS _ _ _ 0 _ _ rfl hp.symm (by omega) (by omega) v1 v2 h;rw[hl]at h s1;have h2:=congrArg aZ h;rw[rj,rj,gy,gy,List.append_assoc,List.append_assoc]at h2;exact EF ho hb (BY r2 _ _ _ _ (by simpa using Gi) s1 s2 h2)
theorem yw{o b:List Int}(ho:aW o)(hb:aW b)(HB:o.length<2^64)(I6:b.length<2^64)(h:dj o=dj b):o=b :=
 uc (s:=[]) (t:=[]) ho hb HB I6 (by rw[h])
end Go.Proofs.YtlieaecnllkefaaGreat
/-! huff.Put: the walk. -/
namespace Go.Proofs.YtlieaecnllkefaaGreat
open Go Go.V Go.RowKit
theorem je{w:World}{b b' s s' n c n' c':Nat}{e e':TypeId}{A A':OA}{xs xs':List Value}(h:aE w b e s A n c xs)(h':aE w b' e' s' A' n' c' xs')(ne:e≠e'):(Value.slice A n c).ownBlock=none∨(Value.slice A n c).ownBlock≠(Value.slice A' n' c').ownBlock:=by
 cases hk:(Value.slice A n c).ownBlock with
 | none=>exact .inl rfl
 | some k =>
  refine .inr fun hq=>?_;obtain⟨c1,h1⟩:=h.block_type k hk;obtain⟨c2,h2⟩:=h'.block_type k hq.symm;rw[h1]at h2;cases h2;exact ne rfl
theorem cW{w:World}{b s n c:Nat}{e:TypeId}{A:OA}{xs:List Value}(h:aE w b e s A n c xs):A=none->c=0:=by
 obtain⟨_,⟨_,_,e,_⟩ | ⟨g,cur,e,_⟩⟩:=h.cases
 ·exact fun _=>e
 ·intro q;rw[q]at e;cases e
theorem vY(x:Int)(l:List Int):de (x ::l)=(if 0<x then 1 else 0)+de l:=by
 unfold de;rw[List.filter_cons];by_cases h:0<x
 ·simp[h];omega
 ·simp[h]
theorem vW(a b:Nat):bF [a,b]=cJ a++cJ b:=by simp[bF]
theorem iS(a:Nat):bF [a]=cJ a:=by simp[bF]
theorem db{w:World}{b n c:Nat}{A:OA}{xs:List Int}(h:aE w b 5 1 A n c (cy xs)):n=xs.length:=by
 have:=h.cases.1;rw[List.length_map]at this;omega
theorem pe{w:World}{A:OA}{n c:Nat}{b:List Int}(hr:aY w A (cy b))(hn:n=b.length)(hb:aW b)(hl:n<=2^20):
    Calls P 69 #[.slice A n c] w fun ev w'=>∃(A':OA)(n' c':Nat),ev=.returned (.slice A' n' c')/\aE w' w.heap.size 5 1 A' n' c' (cy (dj b))/\w.grownBy w' none:=by
  apply vc69;dsimp only[VC69,Br,Rd,Ix,Ap,cB,cS,nb,iq]
  try simp only[aG]
  refine⟨by omega,?_⟩;have gal:=World.grownBy_alloc w (.cells #[.int .u64 (n:Int)] 22) none;have Ja:aY (w.alloc (.cells #[.int .u64 (n:Int)] 22)) (some ⟨w.heap.size,0,none⟩) (pD [n]):=di w _ 22;refine(iN (l:=[n]) Ja rfl (by simp;omega) (by simp)).mono fun ev w1 hh=>?_;obtain⟨A1,n1,c1,rfl,o1,g1⟩:=hh;replace o1:=o1.mono (base':=w.heap.size) gal.size;have G7:=aA gal g1;rw[iS]at o1;refine⟨A1,n1,c1,rfl,fun h0=>?_,fun h0=>?_⟩
  · have e:b=[]:=by apply List.eq_nil_of_length_eq_zero;omega
    subst e;have e0:n=0:=by omega
    subst e0;exact⟨_,_,_,rfl,by simpa[dj]using o1,G7⟩
  have Gh:b≠[]:=fun e=>by subst e;simp at hn;omega
  obtain⟨Jf,hR,He,HV⟩:=fo hb Gh;have JF:dj b=cJ n++(cJ (de (lw b))++(dI (lw b) 0 0++dS (fT (lw b) (eZ b)))):=by rw[dj,if_neg Gh,hn]
  have r1:=hr.kept_none G7;refine(vA r1 hn hb (by omega)).mono fun ev w2 hh=>?_;obtain⟨A2,n2,c2,rfl,o2,g2⟩:=hh;refine⟨_,_,_,rfl,?_⟩;have Ir:n2=(pu b).length:=by rw[o2.cases.1];simp[aT]
  refine(vt (most:=15) o2.row Ir).mono fun ev w3 hh=>?_;obtain⟨A3,n3,c3,rfl,o3,g3⟩:=hh;replace o3:cR w3 w2.heap.size 3 A3 n3 c3 (aT (lw b)):=o3;generalize lw b=ls at *;have I5:n3=256:=by rw[o3.cases.1];simp[aT,Jf]
  have SZ:=ki ls;have I4:=cZ (v:=n) (by omega);have GO:=aA g2 g3;have Gw:=aA G7 GO;refine⟨_,_,_,rfl,?_⟩;refine⟨fun m nn nx Ah nh ch i w4=>∃(j k:Nat)(hd:List Int),i=(j:Int)/\nx=(k:Int)/\k<=j/\j<=256/\m=256-j/\nn+(de (ls.drop j):Int)=(de ls:Int)/\hd++dI (ls.drop j) j k=dI ls 0 0/\aE w4 w3.heap.size 5 1 Ah nh ch (cy hd)/\hd.length<=20*j/\0<=nn/\w3.grownBy w4 none,
    ⟨_,0,0,[],rfl,rfl,by omega,by omega,rfl,by simp,by simp,aE.nil _ _ _ _,by simp,by omega,aC _ _⟩,?_⟩
  rintro m nn nx Ah nh ch i w4 ⟨j,k,hd,rfl,rfl,VE,hj,rfl,IE,HI,oh,VR,JI,Gs⟩;have tj:(j:Int).toNat=j:=by omega
  rw[tj];have Vt:=db oh;refine⟨fun Ge=>?_,fun Gj=>?_⟩
  · have lj:j<ls.length:=by omega
    have GH:=List.drop_eq_getElem_cons lj;have Oo:=HV _ (List.getElem_mem lj);obtain⟨p,hp⟩:∃ p:Nat,ls[j]=(p:Int):=⟨ls[j].toNat,by omega⟩;obtain⟨a,Gy,Gv⟩:=(o3.row.kept_none Gs) j (.int .i64 ls[j]) (by simp[aT,lj]);rw[hp]at Gv GH Oo;rw[GH,dI]at HI;rw[GH,vY]at IE;refine⟨a,Gy,by omega,by omega,_,Gv,fun Gm=>?_,fun hz=>?_⟩
    · rw[if_pos (by omega)]at HI IE;have ep:(p:Int).toNat=p:=by omega
      rw[ep]at HI;refine⟨by omega,by omega,by omega,?_⟩;rw[show((j:Int)-(k:Int))=((j-k:Nat):Int) by omega];have ga:=World.grownBy_alloc w4 (.cells #[.int .u64 ((j-k:Nat):Int),.int .u64 (p:Int)] 22) none;have Ja:aY (w4.alloc (.cells #[.int .u64 ((j-k:Nat):Int),.int .u64 (p:Int)] 22)) (some ⟨w4.heap.size,0,none⟩) (pD [j-k,p]):=di w4 _ 22;refine(iN (l:=[j-k,p]) Ja rfl (by simp;omega) (by simp)).mono fun ev w5 hh=>?_;obtain⟨A5,n5,c5,rfl,o5,g5⟩:=hh;have JB:=aA ga g5;rw[vW]at o5;have HR:=db o5;have l1:=cZ (v:=j-k) (by omega);have l2:=cZ (v:=p) (by omega);have l5:(cJ (j-k)++cJ p).length<=20:=by rw[List.length_append];omega
      obtain⟨A6,n6,c6,w6,e1,e2,e3,e4⟩:=aO (oh.kept JB) o5.row HR (cW o5) (by omega) (Nat.le_trans Gs.size JB.size);refine⟨_,_,_,rfl,_,_,_,w6,e1,by omega,by omega,by omega,256-(j+1),by omega,j+1,j+1,hd++(cJ (j-k)++cJ p),by omega,by omega,by omega,by omega,rfl,by omega,?_,e2,?_,by omega,aN (aA Gs JB) e3 oh.block_ge⟩
      · rw[← HI];simp
      · rw[List.length_append];omega
    · rw[if_neg (by omega)]at HI IE;exact⟨by omega,256-(j+1),by omega,j+1,k,hd,by omega,rfl,by omega,by omega,rfl,by omega,HI,oh,by omega,JI,Gs⟩
  have e256:j=256:=by omega
  subst e256;rw[List.drop_eq_nil_of_le (by omega)]at HI IE;simp only[dI,List.append_nil]at HI;subst HI;have Mn:nn=(de ls:Int):=by simp[de]at IE ⊢;omega
  subst Mn;refine⟨by omega,?_⟩;have ga:=World.grownBy_alloc w4 (.cells #[.int .u64 (de ls:Int)] 22) none;have Ja:aY (w4.alloc (.cells #[.int .u64 (de ls:Int)] 22)) (some ⟨w4.heap.size,0,none⟩) (pD [de ls]):=di w4 _ 22;refine(iN (l:=[de ls]) Ja rfl (by simp;omega) (by simp)).mono fun ev w7 hh=>?_;obtain⟨A7,n7,c7,rfl,o7,g7⟩:=hh;have Jm:=aA ga g7;have PQ:=aA Gs Jm;have Ic:=aA GO PQ;rw[iS]at o7;have LF:=db o7;have IR:=db o1;have l7:=cZ (v:=de ls) (by omega);have o1':=o1.kept Ic;have oh7:=oh.kept Jm;have NO:=aE.kept (size:=1) o3 PQ;obtain⟨A8,n8,c8,w8,e1,e2,e3,e4⟩:=aO o1' o7.row LF (cW o7) (by omega) (Nat.le_trans G7.size Ic.size);refine⟨_,_,_,rfl,_,_,_,w8,e1,?_⟩;have oh8:=oh7.apart e3 (by
    cases hk:(Value.slice Ah nh ch).ownBlock with
    | none=>exact .inl rfl
    | some k =>
      refine .inr fun hq=>?_;have a1:=oh.block_ge k hk;have a2:=o1.block_lt k hq.symm;have a3:=GO.size;omega)
  have NN:=NO.apart e3 (je NO o1' (by decide));have K8:Kp w w8 (fun k=>w.heap.size<=k):=(Kp.of_none (aA G7 Ic)).step e3 (fun k hk=>.inr (o1.block_ge k hk));obtain⟨A9,n9,c9,w9,f1,f2,f3,f4⟩:=aO e2 oh8.row (db oh8) (cW oh8) (by omega) K8.size;refine⟨_,_,_,w9,f1,?_⟩;have NM:=NN.apart f3 (je NN e2 (by decide));have K9:Kp w w9 (fun k=>w.heap.size<=k):=K8.step f3 (fun k hk=>.inr (e2.block_ge k hk));refine(wk (ls:=ls) NM.row (by omega) (by omega)).mono fun ev Gx hh=>?_;obtain⟨HO,⟨hf,rfl⟩ | ⟨_,gt,rfl,hT⟩⟩:=hh
  · rw[hR]at hf;cases hf
  refine⟨_,_,rfl,?_⟩;refine(mA (base:=Gx.heap.size) (Nat.le_refl _)).mono fun ev GQ hh=>?_;obtain⟨rfl,hW,KD⟩:=hh;refine⟨_,rfl,?_⟩;have K10:Kp w Gx (fun k=>w.heap.size<=k):=K9.step HO (fun k hk=>by cases hk);have r10:aY Gx A (cy b):=hr.kp K10 (fun a ha hk e=>by omega);have hA:∀ a,A=some a->a.block<w.heap.size:=fun a ha=>by
    obtain⟨q,q1,q2⟩:=hr.blk (by simpa using Gh);rw[ha]at q1;cases q1;exact q2
  have keepT:∀ w',Kp Gx w' (fun k=>Gx.heap.size<=k)->qk w' Gx.heap.size gt ls:=fun w' h=>hT.kp h (fun k hk e=>by omega);refine⟨fun m i HQ=>∃ j:Nat,i=(j:Int)/\j<=b.length/\m=b.length-j/\Wr HQ Gx.heap.size Gx.heap.size (fT ls ((eZ b).take j))/\Kp Gx HQ (fun k=>Gx.heap.size<=k),
    ⟨_,0,rfl,by omega,rfl,by simpa[fT]using hW,Kp.of_none KD⟩,?_⟩
  rintro m i HQ ⟨j,rfl,hj,rfl,Jk,K12⟩;have tj:(j:Int).toNat=j:=by omega
  rw[tj];have Pm:=ni hR ((eZ b).take j);have QO:=mM hR ((eZ b).take j);have JR:((eZ b).take j).length=j:=by simp;omega
  refine⟨fun Ge=>?_,fun Gj=>?_⟩
  · have lj:j<b.length:=by omega
    obtain⟨a,Gy,Gv⟩:=(r10.kp K12 (fun a ha _ e=>by have:=hA a ha;have:=K10.size;omega)) j (.int .u8 b[j]) (by simp[lj]);have Qj:=hb _ (List.getElem_mem lj);refine⟨a,Gy,by omega,by omega,_,Gv,by omega,?_⟩;refine(wV (s:=b[j]) (keepT HQ K12) hR Jk (by omega) K12.size).mono fun ev HP hh=>?_;obtain⟨rfl,MO,k13⟩:=hh;refine⟨_,rfl,by omega,b.length-(j+1),by omega,j+1,by omega,by omega,rfl,?_,K12.then k13 (fun k _ e=>e.1)⟩;have hs:=He b[j].toNat (by simp only[eZ];exact List.mem_map_of_mem (List.getElem_mem lj));have hv:ii ls b[j]=true:=by simp[ii];omega
    rw[List.take_succ_eq_append_getElem (by simpa using lj),sp];have:fT ls [(eZ b)[j]'(by simpa using lj)]=kv ls b[j]:=by
      rw[kv,if_pos hv];simp[fT]
    rw[this];exact MO
  · have e:j=b.length:=by omega
    subst e;rw[List.take_of_length_le (by simp)]at Jk Pm QO;have P5:(eZ b).length=b.length:=by simp
    refine(sC Jk (by omega)).mono fun ev JZ hh=>?_;obtain⟨XL,Um,c14,rfl,KO,HN⟩:=hh;refine⟨_,_,_,rfl,?_⟩;have f2':=aE.kp (f2.kept HO) (K12.step HN (fun k hk=>by cases hk)) (fun k hk e=>by have:=f2.block_lt k hk;have:=HO.size;omega);have Mq:=db KO;rw[bN]at Mq;have Nn:=db f2;have Jr:=db e2;obtain⟨XJ,Ul,c15,Lp,h1,h2,h3,h4⟩:=aO f2' KO.row (db KO) (cW KO) (by omega) (Nat.le_trans K10.size (Nat.le_trans K12.size HN.size));refine⟨_,_,_,Lp,h1,_,_,_,rfl,?_,?_⟩
    · rw[JF];simpa using h2
    · have K12':Kp w HQ (fun k=>w.heap.size<=k):=K10.then K12 (fun k hk e=>by have:=K10.size;omega);exact((K12'.step HN (fun k hk=>by cases hk)).step h3 (fun k hk=>.inr (f2.block_ge k hk))).grown (fun k hk e=>by omega)
end Go.Proofs.YtlieaecnllkefaaGreat
/-! archipelagoref5.Put: the walk. -/
namespace Go.Proofs.YtlieaecnllkefaaGreat
open Go Go.V Go.RowKit
theorem rx{w:World}{A:OA}{n c:Nat}{b:List Int}(hr:aY w A (cy b))(hn:n=b.length)(hb:aW b)(hl:n<=2^20):
    Calls P 79 #[.slice A n c] w fun ev w'=>∃(A':OA)(n' c':Nat),ev=.returned (.slice A' n' c')/\aE w' w.heap.size 5 1 A' n' c' (cy (dj b))/\w.grownBy w' none:=by
  apply vc79;dsimp only[VC79,Br,Rd,Ix,Ap,cS,cU,nb,iq]
  try simp only[aG]
  refine⟨by omega,?_⟩;have gal:=World.grownBy_alloc w (.cells #[.int .u64 (n:Int)] 22) none;have Ja:aY (w.alloc (.cells #[.int .u64 (n:Int)] 22)) (some ⟨w.heap.size,0,none⟩) (pD [n]):=di w _ 22;refine(kg (l:=[n]) Ja rfl (by simp;omega) (by simp)).mono fun ev w1 hh=>?_;obtain⟨A1,n1,c1,rfl,o1,g1⟩:=hh;replace o1:=o1.mono (base':=w.heap.size) gal.size;have G7:=aA gal g1;rw[iS]at o1;refine⟨A1,n1,c1,rfl,fun h0=>?_,fun h0=>?_⟩
  · have e:b=[]:=by apply List.eq_nil_of_length_eq_zero;omega
    subst e;have e0:n=0:=by omega
    subst e0;exact⟨_,_,_,rfl,by simpa[dj]using o1,G7⟩
  have Gh:b≠[]:=fun e=>by subst e;simp at hn;omega
  obtain⟨Jf,hR,He,HV⟩:=fo hb Gh;have JF:dj b=cJ n++(cJ (de (lw b))++(dI (lw b) 0 0++dS (fT (lw b) (eZ b)))):=by rw[dj,if_neg Gh,hn]
  have r1:=hr.kept_none G7;refine(tV r1 hn hb (by omega)).mono fun ev w2 hh=>?_;obtain⟨A2,n2,c2,rfl,o2,g2⟩:=hh;refine⟨_,_,_,rfl,?_⟩;have Ir:n2=(pu b).length:=by rw[o2.cases.1];simp[aT]
  refine(qF (most:=15) o2.row Ir).mono fun ev w3 hh=>?_;obtain⟨A3,n3,c3,rfl,o3,g3⟩:=hh;replace o3:cR w3 w2.heap.size 3 A3 n3 c3 (aT (lw b)):=o3;generalize lw b=ls at *;have I5:n3=256:=by rw[o3.cases.1];simp[aT,Jf]
  have SZ:=ki ls;have I4:=cZ (v:=n) (by omega);have GO:=aA g2 g3;have Gw:=aA G7 GO;refine⟨_,_,_,rfl,?_⟩;refine⟨fun m nn nx Ah nh ch i w4=>∃(j k:Nat)(hd:List Int),i=(j:Int)/\nx=(k:Int)-1/\k<=j/\j<=256/\m=256-j/\nn+(de (ls.drop j):Int)=(de ls:Int)/\hd++dI (ls.drop j) j k=dI ls 0 0/\aE w4 w3.heap.size 5 1 Ah nh ch (cy hd)/\hd.length<=20*j/\0<=nn/\w3.grownBy w4 none,
    ⟨_,0,0,[],rfl,by omega,by omega,by omega,rfl,by simp,by simp,aE.nil _ _ _ _,by simp,by omega,aC _ _⟩,?_⟩
  rintro m nn nx Ah nh ch i w4 ⟨j,k,hd,rfl,rfl,VE,hj,rfl,IE,HI,oh,VR,JI,Gs⟩;have tj:(j:Int).toNat=j:=by omega
  rw[tj];have Vt:=db oh;refine⟨fun Ge=>?_,fun Gj=>?_⟩
  · have lj:j<ls.length:=by omega
    have GH:=List.drop_eq_getElem_cons lj;have Oo:=HV _ (List.getElem_mem lj);obtain⟨p,hp⟩:∃ p:Nat,ls[j]=(p:Int):=⟨ls[j].toNat,by omega⟩;obtain⟨a,Gy,Gv⟩:=(o3.row.kept_none Gs) j (.int .i64 ls[j]) (by simp[aT,lj]);rw[hp]at Gv GH Oo;rw[GH,dI]at HI;rw[GH,vY]at IE;refine⟨a,Gy,by omega,by omega,_,Gv,fun Gm=>?_,fun hz=>?_⟩
    · rw[if_pos (by omega)]at HI IE;have ep:(p:Int).toNat=p:=by omega
      rw[ep]at HI;refine⟨by omega,by omega,by omega,a,Gy,by omega,by omega,_,Gv,by omega,?_⟩;rw[show((j:Int)-((k:Int)-1)-1)=((j-k:Nat):Int) by omega];have ga:=World.grownBy_alloc w4 (.cells #[.int .u64 ((j-k:Nat):Int),.int .u64 (p:Int)] 22) none;have Ja:aY (w4.alloc (.cells #[.int .u64 ((j-k:Nat):Int),.int .u64 (p:Int)] 22)) (some ⟨w4.heap.size,0,none⟩) (pD [j-k,p]):=di w4 _ 22;refine(kg (l:=[j-k,p]) Ja rfl (by simp;omega) (by simp)).mono fun ev w5 hh=>?_;obtain⟨A5,n5,c5,rfl,o5,g5⟩:=hh;have JB:=aA ga g5;rw[vW]at o5;have HR:=db o5;have l1:=cZ (v:=j-k) (by omega);have l2:=cZ (v:=p) (by omega);have l5:(cJ (j-k)++cJ p).length<=20:=by rw[List.length_append];omega
      obtain⟨A6,n6,c6,w6,e1,e2,e3,e4⟩:=aO (oh.kept JB) o5.row HR (cW o5) (by omega) (Nat.le_trans Gs.size JB.size);refine⟨_,_,_,rfl,_,_,_,w6,e1,by omega,by omega,256-(j+1),by omega,j+1,j+1,hd++(cJ (j-k)++cJ p),by omega,by omega,by omega,by omega,rfl,by omega,?_,e2,?_,by omega,aN (aA Gs JB) e3 oh.block_ge⟩
      · rw[← HI];simp
      · rw[List.length_append];omega
    · rw[if_neg (by omega)]at HI IE;exact⟨by omega,256-(j+1),by omega,j+1,k,hd,by omega,rfl,by omega,by omega,rfl,by omega,HI,oh,by omega,JI,Gs⟩
  have e256:j=256:=by omega
  subst e256;rw[List.drop_eq_nil_of_le (by omega)]at HI IE;simp only[dI,List.append_nil]at HI;subst HI;have Mn:nn=(de ls:Int):=by simp[de]at IE ⊢;omega
  subst Mn;refine⟨by omega,?_⟩;have ga:=World.grownBy_alloc w4 (.cells #[.int .u64 (de ls:Int)] 22) none;have Ja:aY (w4.alloc (.cells #[.int .u64 (de ls:Int)] 22)) (some ⟨w4.heap.size,0,none⟩) (pD [de ls]):=di w4 _ 22;refine(kg (l:=[de ls]) Ja rfl (by simp;omega) (by simp)).mono fun ev w7 hh=>?_;obtain⟨A7,n7,c7,rfl,o7,g7⟩:=hh;have Jm:=aA ga g7;have PQ:=aA Gs Jm;have Ic:=aA GO PQ;rw[iS]at o7;have LF:=db o7;have IR:=db o1;have l7:=cZ (v:=de ls) (by omega);have o1':=o1.kept Ic;have oh7:=oh.kept Jm;have NO:=aE.kept (size:=1) o3 PQ;obtain⟨A8,n8,c8,w8,e1,e2,e3,e4⟩:=aO o1' o7.row LF (cW o7) (by omega) (Nat.le_trans G7.size Ic.size);refine⟨_,_,_,rfl,_,_,_,w8,e1,?_⟩;have oh8:=oh7.apart e3 (by
    cases hk:(Value.slice Ah nh ch).ownBlock with
    | none=>exact .inl rfl
    | some k =>
      refine .inr fun hq=>?_;have a1:=oh.block_ge k hk;have a2:=o1.block_lt k hq.symm;have a3:=GO.size;omega)
  have NN:=NO.apart e3 (je NO o1' (by decide));have K8:Kp w w8 (fun k=>w.heap.size<=k):=(Kp.of_none (aA G7 Ic)).step e3 (fun k hk=>.inr (o1.block_ge k hk));obtain⟨A9,n9,c9,w9,f1,f2,f3,f4⟩:=aO e2 oh8.row (db oh8) (cW oh8) (by omega) K8.size;refine⟨_,_,_,w9,f1,?_⟩;have NM:=NN.apart f3 (je NN e2 (by decide));have K9:Kp w w9 (fun k=>w.heap.size<=k):=K8.step f3 (fun k hk=>.inr (e2.block_ge k hk));have gw:=World.grownBy_alloc w9 (.cells #[.slice none 0 0] 178) none;obtain⟨w9',Mc⟩:∃ w9',w9'=w9.alloc (.cells #[.slice none 0 0] 178):=⟨_,rfl⟩;have WM:zH w9' w9.heap.size w9.heap.size []:=by rw[Mc];exact⟨none,0,0,heap_alloc_new w9 _,Nat.le_refl _,aE.nil _ _ _ _⟩
  rw[← Mc]at gw ⊢;refine(tY (ls:=ls) (NM.row.kept_none gw) (by omega) (by omega)).mono fun ev Gx hh=>?_;obtain⟨L4,Lr,c10,rfl,J1,HO⟩:=hh;have Ky:=aA gw HO;refine⟨_,_,_,rfl,?_⟩;have IG:=fq hR;have ON:Lr=256:=by rw[J1.cases.1];simp[aT,IG,Jf]
  have K10:Kp w Gx (fun k=>w.heap.size<=k):=K9.step Ky (fun k hk=>by cases hk);have r10:aY Gx A (cy b):=hr.kp K10 (fun a ha hk e=>by omega);have hA:∀ a,A=some a->a.block<w.heap.size:=fun a ha=>by
    obtain⟨q,q1,q2⟩:=hr.blk (by simpa using Gh);rw[ha]at q1;cases q1;exact q2
  have l10:aY Gx A3 (aT ls):=NM.row.kept_none Ky;have d10:aY Gx L4 (aT (fu ls)):=J1.row
  -- what is written is of the writer's two types, none of which are the rows'
  have tyA:∀(b':Nat)(B:OA)(m d:Nat)(xs:List Int),cR Gx b' 3 B m d (aT xs)->∀ w',Kp Gx w' (vg Gx w9.heap.size [178,4])->cR w' b' 3 B m d (aT xs):=by
    intro b' B m d xs h w' hk;refine aE.kp (size:=1) h hk fun k hk e=>?_;obtain⟨t,ht,Oa⟩:=e.2;obtain⟨cur,Gt⟩:=aE.block_type (size:=1) h k hk;have:t=3:=Oa.ne ⟨_,_,Gt⟩;subst this;simp at ht
  refine⟨fun m i HQ=>∃ j:Nat,i=(j:Int)/\j<=b.length/\m=b.length-j/\zH HQ w9.heap.size w9.heap.size (fT ls ((eZ b).take j))/\aY HQ A3 (aT ls)/\aY HQ L4 (aT (fu ls))/\aE HQ w.heap.size 5 1 A9 n9 c9 (cy (cJ n++cJ (de ls)++dI ls 0 0))/\Kp w HQ (fun k=>w.heap.size<=k)/\w9.heap.size<=HQ.heap.size/\cR HQ w2.heap.size 3 A3 n3 c3 (aT ls)/\(∃ b',cR HQ b' 3 L4 Lr c10 (aT (fu ls))),
    ⟨_,0,rfl,by omega,rfl,by simpa[fT]using WM.kept HO,l10,d10,f2.kept Ky,K10,Ky.size,aE.kept (size:=1) NM Ky,_,J1⟩,?_⟩
  rintro m i HQ ⟨j,rfl,hj,rfl,Jk,Rn,RP,Lc,K12,sz12,ol12,bd,od12⟩;have tj:(j:Int).toNat=j:=by omega
  rw[tj];have Pm:=ni hR ((eZ b).take j);have QO:=mM hR ((eZ b).take j);have JR:((eZ b).take j).length=j:=by simp;omega
  refine⟨fun Ge=>?_,fun Gj=>?_⟩
  · have lj:j<b.length:=by omega
    have gd:=aH (aC HQ none);obtain⟨a,Gy,Gv⟩:=((hr.kp K12 (fun a ha hk e=>by omega)).kept_none gd) j (.int .u8 b[j]) (by simp[lj]);have Qj:=hb _ (List.getElem_mem lj);have hs:=He b[j].toNat (by simp only[eZ];exact List.mem_map_of_mem (List.getElem_mem lj));obtain⟨a2,Hq,GD⟩:=(RP.kept_none gd) b[j].toNat (.int .i64 (cd ls b[j].toNat)) (pR (by omega));obtain⟨a3,Ko,RU⟩:=(Rn.kept_none gd) b[j].toNat (.int .i64 (ln ls b[j].toNat)) (pR (by omega));have G4:=ll hR b[j].toNat;have RS:=zo hR hs;have Oo:=(ey hR).2.1 b[j].toNat;obtain⟨q,hq⟩:∃ q:Nat,ln ls b[j].toNat=(q:Int):=⟨(ln ls b[j].toNat).toNat,by omega⟩;have tq:(ln ls b[j].toNat).toNat=q:=by omega
    rw[tq]at RS;have QY:=Nat.pow_le_pow_right (n:=2) (by omega) (show q<=15 by omega);have Yg:((2^q:Nat):Int)=2^q:=by simp
    rw[hq]at RU;refine⟨a,Gy,by omega,by omega,_,Gv,a2,Hq,by omega,by omega,_,GD,by omega,a,Gy,by omega,by omega,_,Gv,a3,Ko,by omega,by omega,_,RU,?_⟩;refine(lF (v:=cd ls b[j].toNat) (n:=q) (Jk.kept gd) (by omega) (by omega) (by omega) (Nat.le_trans sz12 gd.size)).mono fun ev HP hh=>?_;obtain⟨rfl,MO,k13⟩:=hh;have ty13:∀(b':Nat)(B:OA)(m d:Nat)(xs:List Int),cR HQ.drew b' 3 B m d (aT xs)->cR HP b' 3 B m d (aT xs):=by
      intro b' B m d xs h;refine aE.kp (size:=1) h k13 fun k hk e=>?_;obtain⟨t,ht,Oa⟩:=e.2;obtain⟨cur,Gt⟩:=aE.block_type (size:=1) h k hk;have:t=3:=Oa.ne ⟨_,_,Gt⟩;subst this;simp at ht
    have ol13:=ty13 _ _ _ _ _ (aE.kept (size:=1) ol12 gd);have od13:=ty13 _ _ _ _ _ (aE.kept (size:=1) od12 gd);have of13:=aE.kp (Lc.kept gd) k13 fun k hk e=>by
      obtain⟨t,ht,Oa⟩:=e.2;obtain⟨cur,Gt⟩:=(Lc.kept gd).block_type k hk;have:t=5:=Oa.ne ⟨_,_,Gt⟩;subst this;simp at ht
    refine⟨rfl,by omega,b.length-(j+1),by omega,j+1,by omega,by omega,rfl,?_,ol13.row,od13.row,of13,(K12.drew).then k13 (fun k _ e=>by have:=e.1;have:=K9.size;omega),Nat.le_trans sz12 (Nat.le_trans gd.size k13.size),ol13,_,od13⟩;rw[List.take_succ_eq_append_getElem (by simpa using lj),sp];have:fT ls [(eZ b)[j]'(by simpa using lj)]=cN (cd ls b[j].toNat) q:=by
      simp[fT,tq]
    rw[this];exact MO
  · have e:j=b.length:=by omega
    subst e;rw[List.take_of_length_le (by simp)]at Jk Pm QO;have P5:(eZ b).length=b.length:=by simp
    refine(pI Jk (by omega) sz12).mono fun ev JZ hh=>?_;obtain⟨XL,Um,c14,rfl,KO,HN⟩:=hh;refine⟨_,_,_,rfl,?_⟩;have Mq:=db KO;rw[bN]at Mq;have Nn:=db f2;have Jr:=db e2;obtain⟨XJ,Ul,c15,Lp,h1,h2,h3,h4⟩:=aO (Lc.kept HN) KO.row (db KO) (cW KO) (by omega) (Nat.le_trans K12.size HN.size);refine⟨_,_,_,Lp,h1,_,_,_,rfl,?_,?_⟩
    · rw[JF];simpa using h2
    · exact((K12.step HN (fun k hk=>by cases hk)).step h3 (fun k hk=>.inr (Lc.block_ge k hk))).grown (fun k hk e=>by omega)
end Go.Proofs.YtlieaecnllkefaaGreat
/-! The readers' heads: numbers and lengths: the walks. -/
namespace Go.Proofs.YtlieaecnllkefaaGreat
open Go Go.V Go.RowKit
theorem Dd(l:List Int)(k:Nat):(cy l).drop k=cy (l.drop k):=by simp
theorem qU{w:World}{A:OA}{c k:Nat}{l:List Int}(h:aY w A (cy l))(hc:l.length<=c):aY w (bK A c k 1) (cy (l.drop k)):=by
 unfold bK;split
 ·rename_i Hj;rw[List.drop_eq_nil_of_le (by omega)];intro j u hj;simp at hj
 ·have:=h.drop (k*1);rw[Nat.mul_one,Dd]at this;rw[Nat.mul_one];exact this
theorem wy{A:OA}{c k:Nat}{a:Addr}(h:bK A c k 1=some a):∃ a',A=some a'/\a.block=a'.block:=by
 unfold bK at h;split at h
 ·exact⟨a,h,rfl⟩
 ·cases A with
  | none=>simp at h
  | some a'=>simp at h;subst h;exact⟨a',rfl,aL _ _⟩
def iH(w:World)(g:Nat)(l:List Int)(ok:Bool):Prop:=∃(A:OA)(n c:Nat),w.heap[g]?=some (.cells #[.slice A n c,.bool ok] 236 (0,0))/\aY w A (cy l)/\n=l.length/\n<=c/\∀ a,A=some a->l=[]∨a.block<g
theorem iH.kp{w w':World}{S:Nat->Prop}{g:Nat}{l:List Int}{ok:Bool}(h:iH w g l ok)(hk:Kp w w' S)(hS:∀ k,k<=g->¬ S k):iH w' g l ok:=by
 obtain⟨A,n,c,h1,h2,h3,h4,h5⟩:=h;exact⟨A,n,c,by rw[hk.block g (Array.getElem?_eq_some_iff.1 h1).1 (hS g (Nat.le_refl _))];exact h1,h2.kpE hk (fun a ha=>(h5 a ha).imp (fun e=>by rw[e];rfl) (fun e=>hS _ (by omega))),h3,h4,h5⟩
theorem iH.lt{w:World}{g:Nat}{l:List Int}{ok:Bool}(h:iH w g l ok):g<w.heap.size:=by
 obtain⟨A,n,c,h1,_⟩:=h;exact(Array.getElem?_eq_some_iff.1 h1).1
theorem bL{w w':World}{S:Nat->Prop}{g j:Nat}{u:Value}(h:Kp w w' S)(hS:S g):Kp w (w'.setCell ⟨g,j,none⟩ u) S:=h.set (p:=⟨g,j,none⟩) (.inr hS) u
theorem set2{w w':World}{S:Nat->Prop}{b j:Nat}{u:Value}(h:Kp w w' S)(hS:S b):Kp w (w'.setCell ((⟨b,0,none⟩:Addr).add j) u) S:=h.set (.inr (by rw[aL];exact hS)) u
theorem nL{w:World}{g:Nat}{l:List Int}{ok:Bool}{most:Int}(h:iH w g l ok)(hb:aW l)(hl:l.length<=2^40)(hm:0<=most/\most<=9223372036854775807):
    Calls P 161 #[.pointer (some ⟨g,0,none⟩),.int .u64 most] w fun ev w'=>ev=.returned (.int .i64 (dB most l).1)/\iH w' g (l.drop (dB most l).2.1) (ok && decide ((dB most l).2.2=0))/\Kp w w' (fun k=>k=g):=by
  obtain⟨A,n,c,h1,h2,h3,h4,h5⟩:=h;apply vc161;dsimp only[VC161,Wt,Bb,Rs,iq]
  try simp only[aG]
  refine⟨_,rfl,_,_,_,aB h1 0,?_⟩;refine(mH (most:=most) h2 h3 hb (by omega)).mono fun ev w1 hh=>?_;obtain⟨rfl,g1⟩:=hh;have ht:=jP (most:=most) (b:=l) (fun x hx=>(hb x hx).1);obtain⟨v,k,e,hv⟩:∃ v k e,dB most l=(v,k,e):=⟨_,_,_,rfl⟩;rw[hv]at ht ⊢;simp only at ht ⊢;have HZ:=aH g1;have lt:g<w.heap.size:=(Array.getElem?_eq_some_iff.1 h1).1;have IA:w1.drew.heap[g]?=some (.cells #[.slice A n c,.bool ok] 236 (0,0)):=by rw[HZ.block g lt (by simp)];exact h1
  have tk:(k:Int).toNat=k:=by omega
  have KX:k<=n:=by omega
  have Hl:=aI IA 0 (.slice (bK A c k 1) (n-k) (c-k));have fin:∀ q:Bool,iH ((w1.drew.setCell ⟨g,0,none⟩ (.slice (bK A c k 1) (n-k) (c-k))).setCell ⟨g,1,none⟩ (.bool q)) g (l.drop k) q/\Kp w ((w1.drew.setCell ⟨g,0,none⟩ (.slice (bK A c k 1) (n-k) (c-k))).setCell ⟨g,1,none⟩ (.bool q)) (fun k=>k=g):=by
    intro q;have K:Kp w ((w1.drew.setCell ⟨g,0,none⟩ (.slice (bK A c k 1) (n-k) (c-k))).setCell ⟨g,1,none⟩ (.bool q)) (fun k=>k=g):=bL (bL (Kp.of_none HZ) rfl) rfl;refine⟨⟨_,_,_,by simpa using aI Hl 1 (.bool q),?_,by simp;omega,by omega,?_⟩,K⟩
    · exact qU (h2.kpE K (fun a ha=>(h5 a ha).imp (fun e=>by rw[e];rfl) (fun e=>by omega))) (by omega)
    · intro a ha;obtain⟨a',e1,e2⟩:=wy ha;exact(h5 a' e1).imp (fun e=>by rw[e];simp) (fun e=>by omega)
  refine⟨v,(k:Int),e,rfl,_,rfl,_,_,_,aB IA 0,⟨by omega,by omega⟩,?_⟩;rw[tk];refine⟨_,rfl,ok,by rw[aP];exact aB IA 1,fun h=>?_,fun h=>?_⟩
  · refine⟨_,rfl,⟨_,aB IA 0⟩,aD IA 0,_,rfl,⟨_,by rw[aP];exact aB Hl 1⟩,by rw[aP];exact aD Hl 1,⟨by omega,by omega⟩,rfl,?_⟩;rw[aP,h,Bool.true_and];exact fin _
  · refine⟨_,rfl,⟨_,aB IA 0⟩,aD IA 0,_,rfl,⟨_,by rw[aP];exact aB Hl 1⟩,by rw[aP];exact aD Hl 1,⟨by omega,by omega⟩,rfl,?_⟩;rw[aP,h,Bool.false_and];exact fin _
def zJ(l ls tail:List Int):Prop:=ls.length=256/\(∀ v∈ls,0<=v/\v<=15)/\l=cJ (de ls)++(dI ls 0 0++tail)
theorem zJ.step{ls tail r:List Int}{k:Nat}{n:Int}(Jf:ls.length=256)(hr:∀ v∈ls,0<=v/\v<=15)(hk:k<=256)(hn:n=(de (ls.drop k):Int))(hp:0<n)(he:r=dI (ls.drop k) k k++tail):
    ∃(i:Nat)(x:Int)(r1:List Int),k+i<256/\0<=x/\x<=15/\r=cJ i++r1/\r1=cJ x.toNat++(dI (ls.drop (k+i+1)) (k+i+1) (k+i+1)++tail)/\(qy ls k).set (k+i) x=qy ls (k+i+1)/\n-1=(de (ls.drop (k+i+1)):Int):=by
  obtain⟨i,x,h1,h2,h3,h4,h5⟩:=nM (ls.drop k) k k (Nat.le_refl _) (by omega);obtain⟨u1,u2⟩:=Ch Jf (fun v hv=>(hr v hv).1) hk h1 h3;have hx:=hr x (List.mem_of_mem_drop (List.mem_of_getElem? h1));rw[List.drop_drop,show k+(i+1)=k+i+1 by omega]at h4 h5;refine⟨i,x,_,u1,hx.1,hx.2,?_,rfl,u2,by omega⟩;rw[he,h4,show k+i-k=i by omega];simp
theorem Az {w :World} {g:Nat} {l:List Int} (h:iH w g l true) (hb:aW l) (hl:l.length<=2^40) :
    Calls P 162 #[.pointer (some ⟨g,0,none⟩)] w fun ev w'=>∃(A':OA)(c':Nat)(out:List Int)(ok:Bool)(p:Nat),ev=.returned (.slice A' 256 c')/\aY w' A' (aT out)/\out.length=256/\iH w' g (l.drop p) ok/\Kp w w' (fun k=>k=g)/\∀ ls tail,zJ l ls tail->ok=true/\out=ls/\l.drop p=tail:=by
  apply vc162;dsimp only[VC162,Wt,Br,Bb,Ix,cI,iq]
  try simp only[aG]
  obtain⟨w1,Ie,Gg,g1⟩:=jd (P:=P) (w:=w) ja (by omega) (m:=256) (by omega);have Yw:=h.lt;refine⟨_,_,_,w1,Ie,?_⟩;have h1:iH w1 g l true:=h.kp (S:=fun _=>False) (Kp.of_none g1) (fun _ _ h=>h);refine(nL (most:=256) h1 hb hl (by omega)).mono fun ev w2 hh=>?_;obtain⟨rfl,Si,k2⟩:=hh;have ht:=jP (most:=256) (b:=l) (fun x hx=>(hb x hx).1);have o2:cY w2 w.heap.size 3 256 (List.replicate 256 (.int .i64 0)):=Gg.of_heap (k2.block _ Gg.lt (by omega));have K2:Kp w w2 (fun k=>k=g):=(Kp.of_none g1).then k2 (fun k _ e=>e);refine⟨_,rfl,?_⟩;refine⟨fun m next n w3=>∃(p k:Nat)(out:List Int)(ok:Bool),next=(k:Int)/\k<=256/\m=n.toNat/\0<=n/\n<=256/\cY w3 w.heap.size 3 256 (aT out)/\out.length=256/\iH w3 g (l.drop p) ok/\Kp w w3 (fun k=>k=g)/\∀ ls tail,zJ l ls tail->ok=true/\out=qy ls k/\n=(de (ls.drop k):Int)/\l.drop p=dI (ls.drop k) k k++tail,
    ⟨_,_,0,List.replicate 256 0,_,rfl,by omega,rfl,by omega,by omega,by simpa[aT]using o2,by simp,Si,K2,?_⟩,?_⟩
  · rintro ls tail ⟨Jf,hr,he⟩;have SZ:=ki ls;have GY:=fF (most:=256) (n:=de ls) (by omega) (by omega) (dI ls 0 0++tail);rw[← he]at GY;rw[GY];refine⟨by simp,(Cg ls).symm,by simp,?_⟩;show l.drop (cJ (de ls)).length=_;rw[he];simp
  rintro m next n w3 ⟨p,k,out,ok,rfl,hk,rfl,JI,IR,ho,HB,hN,K3,hc⟩
  have Jb:∀ w',w'.heap[w.heap.size]?=w3.heap[w.heap.size]?->cY w' w.heap.size 3 256 (aT out):=fun w' e=>ho.of_heap e;have fin:∀ w' (o':List Int),cY w' w.heap.size 3 256 (aT o')->aY w' (some ⟨w.heap.size,0,none⟩) (aT o'):=fun w' o' h=>h.row;refine⟨fun Gm=>?_,fun hz=>?_⟩
  · obtain⟨A,nn,cc,b1,b2,b3,b4,b5⟩:=hN;have hN:iH w3 g (l.drop p) ok:=⟨A,nn,cc,b1,b2,b3,b4,b5⟩;refine⟨_,rfl,ok,by rw[aP];exact aB b1 1,fun hok=>?_,fun hok=>?_⟩
    · subst hok;have GW:aW (l.drop p):=fun x hx=>hb x (List.mem_of_mem_drop hx);refine(nL (most:=256) hN GW (by simp;omega) (by omega)).mono fun ev w4 hh=>?_;obtain⟨rfl,Qp,k4⟩:=hh;have P4:=jP (most:=256) (b:=l.drop p) (fun x hx=>(GW x hx).1);obtain⟨v,q,e,hv⟩:∃ v q e,dB 256 (l.drop p)=(v,q,e):=⟨_,_,_,rfl⟩;rw[hv]at P4 Qp ⊢;simp only[Bool.true_and]at P4 Qp ⊢;rw[List.drop_drop]at Qp;have Hh:cY w4 w.heap.size 3 256 (aT out):=ho.of_heap (k4.block _ ho.lt (by omega));have K4:Kp w w4 (fun k=>k=g):=K3.then k4 (fun k _ e=>e);obtain⟨A4,n4,c4,d1,d2,d3,d4,d5⟩:=Qp;have LQ:∀ ls tail,zJ l ls tail->∃(x:Int)(i:Nat),v=(i:Int)/\e=0/\k+i<256/\0<=x/\x<=15/\l.drop (p+q)=cJ x.toNat++(dI (ls.drop (k+i+1)) (k+i+1) (k+i+1)++tail)/\out.set (k+i) x=qy ls (k+i+1)/\n-1=(de (ls.drop (k+i+1)):Int):=by
        intro ls tail hd;obtain⟨_,c1,c2,c3⟩:=hc ls tail hd;obtain⟨i,x,r1,s1,s2,s3,s4,s5,s6,s7⟩:=zJ.step hd.1 hd.2.1 hk c2 Gm c3;have GY:=fF (most:=256) (n:=i) (by omega) (by omega) r1;rw[← s4,hv]at GY;have e1:v=(i:Int):=congrArg Prod.fst GY;have e2:q=(cJ i).length:=congrArg (fun t=>t.2.1) GY;have e3:e=0:=congrArg (fun t=>t.2.2) GY;refine⟨x,i,e1,e3,s1,s2,s3,?_,by rw[c1];exact s6,s7⟩;rw[← List.drop_drop,s4,e2,List.drop_left,s5]
      refine⟨v,rfl,by omega,_,rfl,decide (e=0),by rw[aP];exact aB d1 1,fun he=>?_,fun he=>?_⟩
      · have Wi:e=0:=by simpa using he
        have Hl:=aI d1 1 (.bool (decide ((k:Int)+v<256)));have K5:Kp w4 (w4.setCell ⟨g,1,none⟩ (.bool (decide ((k:Int)+v<256)))) (fun k=>k=g):=bL (Kp.refl w4 _) rfl;have KH:=Hh.of_heap (K5.block _ Hh.lt (by omega));have Lk:iH (w4.setCell ⟨g,1,none⟩ (.bool (decide ((k:Int)+v<256)))) g (l.drop (p+q)) (decide ((k:Int)+v<256)) :=
          ⟨A4,n4,c4,by simpa using Hl,d2.kpE K5 (fun a ha=>(d5 a ha).imp (fun e=>by rw[e];rfl) (fun e=>by omega)),d3,d4,d5⟩
        refine⟨_,rfl,⟨_,by rw[aP];exact aB d1 1⟩,by rw[aP];exact aD d1 1,_,rfl,decide ((k:Int)+v<256),?_,fun Ge=>?_,fun Gj=>?_⟩
        · rw[aP];simpa using aB Hl 1
        · rw[aP];have Je:(k:Int)+v<256:=by simpa using Ge
          rw[Ge]at Lk;simp only[Ge]at KH Lk K5 ⊢;have RX:aW (l.drop (p+q)):=fun x hx=>hb x (List.mem_of_mem_drop hx);refine(nL (most:=15) Lk RX (by simp;omega) (by omega)).mono fun ev w6 hh=>?_;obtain⟨rfl,Sg,k6⟩:=hh;have Ik:=KH.of_heap (k6.block _ KH.lt (by omega));have tv:((k:Int)+v).toNat=k+v.toNat:=by omega
          have Gk:=Ik.cell (j:=k+v.toNat) (u:=.int .i64 (out.getD (k+v.toNat) 0)) (pR (by omega));refine⟨_,rfl,by omega,_,rfl,by omega,by omega,?_,?_,by omega,(n-1).toNat,by omega,?_⟩
          · rw[tv];exact⟨_,Gk⟩
          · exact Ik.notFrozen (aL _ _)
          · rw[tv];have GU:=Ik.set (j:=k+v.toNat) (by rw[List.length_map];omega) (.int .i64 (dB 15 (l.drop (p+q))).1);rw[uw]at GU;have K6:Kp w (w6.setCell ((⟨w.heap.size,0,none⟩:Addr).add (k+v.toNat)) (.int .i64 (dB 15 (l.drop (p+q))).1)) (fun k=>k=g):=((K4.then K5 (fun k _ e=>e)).then k6 (fun k _ e=>e)).set (.inl (by rw[aL];exact Nat.le_refl _)) _;have TY:=Sg.kp (S:=fun k=>k=w.heap.size) (set2 (b:=w.heap.size) (j:=k+v.toNat) (u:=.int .i64 (dB 15 (l.drop (p+q))).1) (Kp.refl w6 _) rfl) (fun k hk e=>by omega);rw[List.drop_drop]at TY;refine⟨_,k+v.toNat+1,out.set (k+v.toNat) (dB 15 (l.drop (p+q))).1,_,by omega,by omega,rfl,by omega,by omega,GU,by simp;omega,TY,K6,?_⟩;intro ls tail hd;obtain⟨x,i,a1,a2,a3,a4,a5,a6,a7,a8⟩:=LQ ls tail hd;have GY:=fF (most:=15) (n:=x.toNat) (by omega) (by omega) (dI (ls.drop (k+i+1)) (k+i+1) (k+i+1)++tail);rw[← a6]at GY;have ti:v.toNat=i:=by omega
            rw[GY,ti];refine⟨by simp,?_,a8,?_⟩
            · show out.set (k+i) ((x.toNat:Nat):Int)=_;rw[show((x.toNat:Nat):Int)=x by omega];exact a7
            · show l.drop (p+q+(cJ x.toNat).length)=_;rw[← List.drop_drop,a6,List.drop_left]
        · rw[aP];simp only[Gj]at KH Lk K5 ⊢;refine⟨by omega,(n-1).toNat,by omega,p+q,k,out,false,rfl,hk,rfl,by omega,by omega,KH,HB,Lk,K4.then K5 (fun k _ e=>e),?_⟩;intro ls tail hd;obtain⟨x,i,a1,a2,a3,_⟩:=LQ ls tail hd;exfalso;have:decide ((k:Int)+v<256)=true:=by simp;omega
          rw[Gj]at this;cases this
      · have Hl:=aI d1 1 (.bool false);have K5:Kp w4 (w4.setCell ⟨g,1,none⟩ (.bool false)) (fun k=>k=g):=bL (Kp.refl w4 _) rfl;have KH:=Hh.of_heap (K5.block _ Hh.lt (by omega));have Lk:iH (w4.setCell ⟨g,1,none⟩ (.bool false)) g (l.drop (p+q)) false :=
          ⟨A4,n4,c4,by simpa using Hl,d2.kpE K5 (fun a ha=>(d5 a ha).imp (fun e=>by rw[e];rfl) (fun e=>by omega)),d3,d4,d5⟩
        refine⟨_,rfl,⟨_,by rw[aP];exact aB d1 1⟩,by rw[aP];exact aD d1 1,_,rfl,false,?_,fun h=>(by cases h),fun _=>?_⟩
        · rw[aP];simpa using aB Hl 1
        · rw[aP];refine⟨by omega,(n-1).toNat,by omega,p+q,k,out,false,rfl,hk,rfl,by omega,by omega,KH,HB,Lk,K4.then K5 (fun k _ e=>e),?_⟩;intro ls tail hd;obtain⟨x,i,a1,a2,_⟩:=LQ ls tail hd;exfalso;have:decide (e=0)=true:=by simpa using a2
          rw[he]at this;cases this
    · exact⟨_,_,out,ok,p,rfl,fin w3 out ho,HB,hN,K3,fun ls tail hd=>by have:=(hc ls tail hd).1;rw[hok]at this;cases this⟩
  · refine⟨_,_,out,ok,p,rfl,fin w3 out ho,HB,hN,K3,fun ls tail hd=>?_⟩;obtain⟨c0,c1,c2,c3⟩:=hc ls tail hd;have Q2:de (ls.drop k)=0:=by omega
    obtain⟨h1,h2⟩:=pT (ls.drop k) k k Q2;rw[h1,List.nil_append]at c3;refine⟨c0,?_,c3⟩;rw[c1];exact Dc hd.1 (fun v hv=>(hd.2.1 v hv).1) hk h2
end Go.Proofs.YtlieaecnllkefaaGreat
/-! archipelagoref5's lengths: the walk. -/
namespace Go.Proofs.YtlieaecnllkefaaGreat
open Go Go.V Go.RowKit
end Go.Proofs.YtlieaecnllkefaaGreat
/-! huff.Read: the walk. -/
namespace Go.Proofs.YtlieaecnllkefaaGreat
open Go Go.V Go.RowKit
theorem m9:∀(l:List Int)(s nx:Nat),aW (dI l s nx)
 | [],s,nx=>by intro y hy;simp[dI]at hy
 | x ::l,s,nx=>by
  rw[dI];split
  ·intro y hy;rcases List.mem_append.1 hy with e | e
   ·exact gl _ y e
   ·rcases List.mem_append.1 e with e | e
    ·exact gl _ y e
    ·exact m9 l _ _ y e
  ·exact m9 l _ _
theorem oG(b:List Int):aW (dj b):=by
 unfold dj;split
 ·exact gl 0
 ·intro y hy;rcases List.mem_append.1 hy with e | e
  ·exact gl _ y e
  ·rcases List.mem_append.1 e with e | e
   ·exact gl _ y e
   ·rcases List.mem_append.1 e with e | e
    ·exact m9 _ _ _ y e
    ·exact rJ _ y e
abbrev B8:Value:=.tuple #[.slice none 0 0,.int .i64 21]
theorem FO{w:World}{b s n c:Nat}{e:TypeId}{A:OA}{xs:List Value}(h:aE w b e s A n c xs):n<=c:=by
 obtain⟨_,⟨_,e1,e2,_⟩ | ⟨g,cur,_,_,_,e,_⟩⟩:=h.cases
 ·omega
 ·exact e
def zG(x:List Int)(ev:Ending)(w':World):Prop :=
 (∃(A':OA)(n' c':Nat)(o:List Int),ev=.returned (.tuple #[.slice A' n' c',.int .i64 0])/\aY w' A' (cy o)/\(n'=o.length/\n'<=c')/\aW o/\o.length<=2^20/\dj o=x) ∨
 (ev=.returned B8/\∀ o,aW o->o.length<2^62->dj o≠x)
theorem vV{w:World}{A B:OA}{n c m d:Nat}{x o:List Int}{R:Ending->World->Prop}{bad good:Ending}(hA:aY w A (cy x))(hn:n=x.length)(hb:aW x)(hB:aY w B (cy o))(hm:m=o.length)(Ld:aW o)(hl:m<=2^20)
    (IK:dj o≠x->∀ w',w.grownBy w' none->R bad w') (Jv:dj o=x->∀ w',w.grownBy w' none->R good w') :
    Calls P 69 #[.slice B m d] w fun ev w1=>∃(C:OA)(k e:Nat),ev=.returned (.slice C k e)/\Calls P 50 #[.slice C k e,.slice A n c] w1 fun ev2 w2=>∃ q:Bool,ev2=.returned (.bool q)/\((q=false->R bad w2)/\(¬ q=false->R good w2)):=by
  refine(pe hB hm Ld hl).mono fun ev w1 hh=>?_;obtain⟨C,k,e,rfl,oC,g1⟩:=hh;refine⟨_,_,_,rfl,?_⟩;refine(jm oC.row (db oC) (hA.kept_none g1) hn (oG o) hb).mono fun ev w2 hh=>?_;obtain⟨rfl,rfl⟩:=hh;exact⟨_,rfl,fun h=>IK (by simpa using h) _ g1,fun h=>Jv (by simpa using h) _ g1⟩
theorem ES{o x:List Int}(ho:aW o)(hl:o.length<2^62)(h:dj o=x){most:Int}(hm:2^62<=most):∃ k,dB most x=((o.length:Int),k,0)/\k<=x.length/\(o≠[]->zJ (x.drop k) (lw o) (dS (fT (lw o) (eZ o)))):=by
 by_cases Gh:o=[]
 ·subst Gh;have:=fF (most:=most) (n:=0) (by omega) (by omega) [];rw[List.append_nil,show cJ 0=x by simpa[dj]using h]at this;refine⟨_,by simpa using this,?_,fun e=>absurd rfl e⟩;rw[← show cJ 0=x by simpa[dj]using h];exact Nat.le_refl _
 ·rw[dj,if_neg Gh]at h;have:=fF (most:=most) (n:=o.length) (by omega) (by omega) (cJ (de (lw o))++(dI (lw o) 0 0++dS (fT (lw o) (eZ o))));rw[h]at this;obtain⟨l1,r1,s1,v1⟩:=fo ho Gh;refine⟨_,this,?_,fun _=>⟨l1,v1,?_⟩⟩
  ·rw[← h,List.length_append];omega
  ·rw[← h,List.drop_left]
theorem m7 {w :World} {A:OA} {n c:Nat} {x:List Int} (hr:aY w A (cy x)) (hn:n=x.length) (hc:n<=c) (hb:aW x) (hl:x.length<=2^16) :
    Calls P 121 #[.slice A n c] w fun ev w'=>w.grownBy w' none/\zG x ev w':=by
  apply vc121;dsimp only[VC121,rt,Br,Bb,Rs,Ap,cI,cB,cS,nb,iq]
  try simp only[aG]
  have gal:=World.grownBy_alloc w (.cells #[.slice A n c,.bool true] 236) none;have Ue:∀ a,A=some a->x=[]∨a.block<w.heap.size:=fun a ha=>by
    by_cases e:x=[]
    · exact .inl e
    · obtain⟨q,q1,q2⟩:=hr.blk (by simpa using e);rw[ha]at q1;cases q1;exact .inr q2
  have Sj:iH (w.alloc (.cells #[.slice A n c,.bool true] 236)) w.heap.size x true:=⟨A,n,c,heap_alloc_new w _,hr.kept_none gal,hn,hc,Ue⟩;refine(nL (most:=9223372036854775807) Sj hb (by omega) (by omega)).mono fun ev w1 hh=>?_;obtain⟨rfl,ND,k1⟩:=hh;have K1:Kp w w1 (fun k=>w.heap.size<=k):=(Kp.of_none gal).then k1 (fun k _ e=>by omega);have keepX:∀ w',Kp w w' (fun k=>w.heap.size<=k)->aY w' A (cy x):=fun w' K=>hr.kpE K (fun a ha=>(Ue a ha).imp (fun e=>by rw[e];rfl) (fun e=>by omega));have grw:∀ w',Kp w w' (fun k=>w.heap.size<=k)->w.grownBy w' none:=fun w' K=>K.grown (fun k hk e=>by omega);have ht:=jP (most:=9223372036854775807) (b:=x) (fun y hy=>(hb y hy).1);have hO:∀ o,aW o->o.length<2^62->dj o=x->∃ k,dB 9223372036854775807 x=((o.length:Int),k,0)/\k<=x.length/\(o≠[]->zJ (x.drop k) (lw o) (dS (fT (lw o) (eZ o)))):=fun o h1 h2 h3=>ES h1 h2 h3 (by omega);obtain⟨N,k0,e0,hv⟩:∃ v k e,dB 9223372036854775807 x=(v,k,e):=⟨_,_,_,rfl⟩;rw[hv]at ht hO ND ⊢;simp only[Bool.true_and]at ht ND ⊢;obtain⟨A1,n1,c1,b1,b2,b3,b4,b5⟩:=ND;have ND:iH w1 w.heap.size (x.drop k0) (decide (e0=0)):=⟨A1,n1,c1,b1,b2,b3,b4,b5⟩;have Gk:w1.cell? ((⟨w.heap.size,0,none⟩:Addr).add 1)=some (.bool (decide (e0=0))):=by rw[aP];exact aB b1 1
  have GW:aW (x.drop k0):=fun y hy=>hb y (List.mem_of_mem_drop hy);refine⟨N,rfl,_,rfl,decide (e0=0),Gk,fun hok=>⟨fun Gm=>?_,fun hz=>?_⟩,fun hok=>?_⟩
  · have Wi : e0=0:=by simpa using hok
    rw[hok]at ND;have NC:∀ o,aW o->o.length<2^62->dj o=x->(o.length:Int)=N/\o≠[]/\zJ (x.drop k0) (lw o) (dS (fT (lw o) (eZ o))):=by
      intro o h1 h2 h3;obtain⟨k,e1,e2,e3⟩:=hO o h1 h2 h3;have a1:N=(o.length:Int):=congrArg Prod.fst e1;have a2:k0=k:=congrArg (fun t=>t.2.1) e1;have Gh:o≠[]:=fun e=>by rw[e]at a1;simp at a1;omega
      subst a2;exact⟨a1.symm,Gh,e3 Gh⟩
    refine(Az ND GW (by simp;omega)).mono fun ev w2 hh=>?_;obtain⟨A2,c2,ls,ok,p,rfl,r2,Jf,Si,k2,IG⟩:=hh;have K2:Kp w w2 (fun k=>w.heap.size<=k):=K1.then k2 (fun k _ e=>by omega);refine⟨_,_,_,rfl,?_⟩;refine(wk (ls:=ls) r2 Jf.symm (by omega)).mono fun ev w3 hh=>?_;obtain⟨g3,Pr⟩:=hh;have K3:Kp w w3 (fun k=>w.heap.size<=k):=K2.step g3 (fun k hk=>by cases hk);have Qq:iH w3 w.heap.size ((x.drop k0).drop p) ok:=Si.kp (S:=fun _=>False) (Kp.of_none g3) (fun _ _ h=>h);obtain⟨A3,n3,c3,d1,d2,d3,d4,d5⟩:=Qq;have Qq:iH w3 w.heap.size ((x.drop k0).drop p) ok:=⟨A3,n3,c3,d1,d2,d3,d4,d5⟩;have Km:w3.cell? ((⟨w.heap.size,0,none⟩:Addr).add 1)=some (.bool ok):=by rw[aP];exact aB d1 1
    have GA:=grw w3 K3;have Ks:ok=false->zG x (.returned B8) w3:=fun h=>.inr ⟨rfl,fun o h1 h2 h3=>by
      obtain⟨_,_,a3⟩:=NC o h1 h2 h3;have:=(IG _ _ a3).1;rw[h]at this;cases this⟩
    rcases Pr with⟨hf,rfl⟩ | ⟨hR,gt,rfl,hT⟩
    · refine⟨_,_,rfl,_,rfl,ok,Km,fun h=>⟨GA,Ks h⟩,fun h=>⟨fun _=>⟨GA,.inr ⟨rfl,fun o h1 h2 h3=>?_⟩⟩,fun h=>absurd rfl h⟩⟩;obtain⟨_,a2,a3⟩:=NC o h1 h2 h3;have e:=(IG _ _ a3).2.1;rw[e,(fo h1 a2).2.1]at hf;cases hf
    refine⟨_,_,rfl,_,rfl,ok,Km,fun h=>⟨GA,Ks h⟩,fun JH=>⟨fun h=>(by cases h),fun _=>?_⟩⟩;have Td:ok=true:=by simpa using JH
    generalize Lx:(x.drop k0).drop p=rest at *;have I3:rest.length<=x.length:=by rw[← Lx];simp only[List.length_drop];omega
    have QV:aW rest:=fun y hy=>by rw[← Lx]at hy;exact hb y (List.mem_of_mem_drop (List.mem_of_mem_drop hy))
    refine⟨_,rfl,_,_,_,aB d1 0,?_⟩;have glt:=Qq.lt;refine(sM d2 d3 (fun a ha=>(d5 a ha).imp id (fun e=>by omega))).mono fun ev w4 hh=>?_;obtain⟨rfl,TU,g4⟩:=hh;have l34:w3.heap.size<w4.heap.size:=(Array.getElem?_eq_some_iff.1 TU.blk).1;refine⟨_,rfl,?_⟩
    refine⟨fun m n' Ao no co w5=>∃(j at_:Nat)(out:List Int),n'=N-(j:Int)/\(j:Int)<=N/\m=(N-(j:Int)).toNat/\out.length=j/\j<=at_/\aW out/\aE w5 w4.heap.size 5 1 Ao no co (cy out)/\jo w5 w3.heap.size A3 n3 c3 rest at_/\Kp w3 w5 (fun k=>w3.heap.size<=k)/\w4.heap.size<=w5.heap.size ∧
        ∀ o,aW o->o.length<2^62->dj o=x->(∃ r,(aZ rest).drop at_=fT ls (eZ (o.drop j))++r)/\out=o.take j,
      ⟨_,0,0,[],by omega,by omega,rfl,rfl,by omega,(fun y hy=>by cases hy),aE.nil _ _ _ _,TU,Kp.of_none g4,Nat.le_refl _,fun o h1 h2 h3=>?_⟩,?_⟩
    · obtain⟨a1,a2,a3⟩:=NC o h1 h2 h3;obtain⟨_,e1,e2⟩:=IG _ _ a3;refine⟨?_,by simp⟩;rw[e2,gy,e1];exact⟨_,rfl⟩
    rintro m n' Ao no co w5 ⟨j,at_,out,rfl,Yq,rfl,HB,Nt,Ld,ho,PF,K5,s45,MF⟩;have K05:Kp w w5 (fun k=>w.heap.size<=k):=K3.then K5 (fun k hk e=>by have:=K3.size;omega);have Vz:=PF.le;have Ih:=db ho;refine⟨fun Ge=>?_,fun Gj=>?_⟩
    · have WS :qk w5 w3.heap.size gt ls:=hT.kp K5 (fun k hk e=>by omega);refine(vj WS (Nat.le_refl _) PF (by omega) QV hR).mono fun ev w6 hh=>?_;obtain⟨rfl,MX,k6⟩:=hh;have K06:Kp w w6 (fun k=>w.heap.size<=k):=K05.then k6 (fun k _ e=>by have:=K3.size;omega);cases hq:jv ls 15 0 0 ((aZ rest).drop at_)with
      | none =>
        have Me:kH ls rest at_=(.tuple #[.int .i64 0,.bool false],at_):=by unfold kH;rw[hq]
        rw[Me];refine⟨_,_,rfl,fun _=>⟨grw w6 K06,.inr ⟨rfl,fun o h1 h2 h3=>?_⟩⟩,fun h=>absurd rfl h⟩;obtain⟨a1,a2,a3⟩:=NC o h1 h2 h3;obtain⟨_,e1,e2⟩:=IG _ _ a3;obtain⟨⟨r,f1⟩,f2⟩:=MF o h1 h2 h3;have hj:j<o.length:=by omega
        rw[List.drop_eq_getElem_cons hj]at f1;have hs:=(fo h1 a2).2.2.1 o[j].toNat (by simp only[eZ];exact List.mem_map_of_mem (List.getElem_mem hj));rw[← e1]at hs;rw[eZ,List.map_cons,jK,List.append_assoc]at f1;rw[f1,nG hR hs]at hq;cases hq
      | some sk =>
        obtain⟨s,k⟩:=sk;have Me:kH ls rest at_=(.tuple #[.int .i64 (s:Int),.bool true],at_+k):=by unfold kH;rw[hq]
        rw[Me]at MX ⊢;have Gi:=vL _ _ _ _ _ _ _ hq;have Ik:=ho.kp k6 (fun k hk e=>by have:=ho.block_ge k hk;omega);refine⟨_,_,rfl,fun h=>(by cases h),fun _=>?_⟩;have Vy:=MX.le;obtain⟨A7,n7,c7,w7,e1,e2,e3,e4⟩:=eO (x:=(s:Int)) Ik (by omega) (Nat.le_trans s45 k6.size);refine⟨by omega,_,_,_,w7,e1,by omega,(N-((j+1:Nat):Int)).toNat,by omega,j+1,at_+k,out++[(s:Int)],by omega,by omega,rfl,by simp;omega,by omega,?_,e2,?_,?_,?_,?_⟩
        · intro y hy;rcases List.mem_append.1 hy with e | e
          · exact Ld y e
          · have:y=(s:Int):=by simpa using e
            omega
        · refine MX.kp (Kp.of_grown e3) (fun e=>by have:=Ik.block_ge _ e.symm;omega) (fun a ha=>(d5 a ha).imp id (fun e1 e=>by have:=Ik.block_ge _ e.symm;omega))
        · exact(K5.then k6 (fun k _ e=>by omega)).step e3 (fun k hk=>.inr (by have:=Ik.block_ge _ hk;omega))
        · exact Nat.le_trans s45 (Nat.le_trans k6.size e3.size)
        · intro o h1 h2 h3;obtain⟨a1,a2,a3⟩:=NC o h1 h2 h3;obtain⟨_,q1,q2⟩:=IG _ _ a3;obtain⟨⟨r,f1⟩,f2⟩:=MF o h1 h2 h3;have hj:j<o.length:=by omega
          rw[List.drop_eq_getElem_cons hj]at f1;have hs:=(fo h1 a2).2.2.1 o[j].toNat (by simp only[eZ];exact List.mem_map_of_mem (List.getElem_mem hj));rw[← q1]at hs;rw[eZ,List.map_cons,jK,List.append_assoc]at f1;rw[f1,nG hR hs]at hq;have s1:o[j].toNat=s:=by simpa using congrArg (fun q=>q.map Prod.fst) hq
          have s2:(ln ls o[j].toNat).toNat=k:=by simpa using congrArg (fun q=>q.map Prod.snd) hq
          have JU:=h1 _ (List.getElem_mem hj);refine⟨⟨r,?_⟩,?_⟩
          · rw[← List.drop_drop,f1,← s2];have:(cN (cd ls o[j].toNat) (ln ls o[j].toNat).toNat).length=(ln ls o[j].toNat).toNat:=el _ _;rw[show(cN (cd ls o[j].toNat) (ln ls o[j].toNat).toNat++(fT ls (List.map Int.toNat (o.drop (j+1)))++r)).drop (ln ls o[j].toNat).toNat=(fT ls (List.map Int.toNat (o.drop (j+1)))++r) by
              conv=>lhs;arg 1;rw[← this]
              exact List.drop_left]
          · rw[List.take_succ_eq_append_getElem hj,← f2];congr 2;omega
    · have VG:(j:Int)=N:=by omega
      have Lk:=Qq.kp K5 (fun k hk e=>by omega);obtain⟨A5,n5,c5,q1,q2,q3,q4,q5⟩:=Lk;refine⟨_,rfl,ok,by rw[aP];exact aB q1 1,fun h=>absurd h JH,fun _=>?_⟩;refine vV (R:=fun ev w'=>w.grownBy w' none/\zG x ev w') (keepX w5 K05) hn hb ho.row Ih Ld (by omega) (fun Gh w' g=>⟨aA (grw w5 K05) g,.inr ⟨rfl,fun o h1 h2 h3=>?_⟩⟩) (fun he w' g=>⟨aA (grw w5 K05) g,.inl ⟨_,_,_,out,rfl,(ho.kept g).row,⟨Ih,FO ho⟩,Ld,by omega,he⟩⟩);obtain⟨a1,a2,a3⟩:=NC o h1 h2 h3;have f2:=(MF o h1 h2 h3).2;rw[List.take_of_length_le (by omega)]at f2;rw[← f2]at h3;exact Gh h3
  · refine⟨_,rfl,decide (e0=0),Gk,fun h=>(by rw[hok]at h;cases h),fun _=>?_⟩;refine vV (R:=fun ev w'=>w.grownBy w' none/\zG x ev w') (o:=[]) (keepX w1 K1) hn hb (aY.nil _ _) rfl (fun y hy=>by cases hy) (by omega) (fun Gh w' g=>⟨aA (grw w1 K1) g,.inr ⟨rfl,fun o h1 h2 h3=>?_⟩⟩) (fun he w' g=>⟨aA (grw w1 K1) g,.inl ⟨_,_,_,[],rfl,aY.nil _ _,⟨rfl,Nat.le_refl _⟩,(fun y hy=>by cases hy),by simp,he⟩⟩);obtain⟨k,e1,_⟩:=hO o h1 h2 h3;have a1:N=(o.length:Int):=congrArg Prod.fst e1;have:o=[]:=List.eq_nil_of_length_eq_zero (by omega);rw[this]at h3;exact Gh h3
  · refine⟨_,rfl,decide (e0=0),Gk,fun h=>⟨grw w1 K1,.inr ⟨rfl,fun o h1 h2 h3=>?_⟩⟩,fun h=>absurd hok h⟩;obtain⟨k,e1,_⟩:=hO o h1 h2 h3;have a1:e0=0:=congrArg (fun t=>t.2.2) e1;rw[a1]at hok;simp at hok
end Go.Proofs.YtlieaecnllkefaaGreat
/-! archipelagoref5.Read: the walk. -/
namespace Go.Proofs.YtlieaecnllkefaaGreat
open Go Go.V Go.RowKit
theorem DP{ls:List Int}(hR:cF ls=true):∀ ss:List Nat,(∀ s∈ss,s<ls.length/\0<ln ls s)->ss.length<=(fT ls ss).length
 | [],_=>by simp
 | s ::ss,h=>by
  have ih:=DP hR ss (fun t ht=>h t (by simp[ht]));have:=h s (by simp);rw[jK,List.length_append,el,List.length_cons];omega
theorem nK{o x:List Int}(ho:aW o)(h:dj o=x):o.length<=8*x.length:=by
 by_cases Gh:o=[]
 ·subst Gh;simp
 ·obtain⟨l1,r1,s1,v1⟩:=fo ho Gh;have h1:=DP r1 (eZ o) s1;have h2:(dS (fT (lw o) (eZ o))).length<=x.length:=by
   rw[← h,dj,if_neg Gh];simp only[List.length_append];omega
  rw[bN]at h2;have h3:(eZ o).length=o.length:=by simp
  omega
end Go.Proofs.YtlieaecnllkefaaGreat
/-! archipelagolaw7: texts, what is known. -/
namespace Go.Proofs.YtlieaecnllkefaaGreat
open Go Go.V Go.RowKit
theorem ff(w:World)(cs:Array Value)(t:TypeId)(fr:Nat×Nat):aY (w.alloc (.cells cs t fr)) (some ⟨w.heap.size,0,none⟩) cs.toList:=by
 intro j u hj;refine⟨_,rfl,?_⟩;rw[aP];have:(w.alloc (.cells cs t fr)).heap[w.heap.size]?=some (.cells cs t fr):=by
  show(w.heap.push _)[w.heap.size]?=_;simp
 rw[aB this];simpa using hj
theorem sA(w:World)(C:Array Value)(n c:Nat):Sem.run P (Go.convert 26 26 (.slice (some ⟨w.heap.size,0,none⟩) n c)) (w.alloc (.cells C 5))=.ok (.slice (some ⟨w.heap.size,0,none⟩) n c) (w.alloc (.cells C 5 (C.size,C.size+1))) :=
 Lib.run_convert_bytes_const (P:=P) w 26 5 C n c (by kernel_rfl) (by kernel_rfl)
theorem jU{w:World}{b s n c:Nat}{e:TypeId}{A:OA}{xs:List Value}(h:aE w b e s A n c xs):n<=c:=by
 obtain⟨_,⟨_,e1,e2,_⟩ | ⟨g,cur,_,_,_,e,_⟩⟩:=h.cases
 ·omega
 ·exact e
end Go.Proofs.YtlieaecnllkefaaGreat

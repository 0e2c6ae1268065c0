/- Own texts, packed: G1, G3, G5, H1, H2, H3, H4, H5, H6, H7, H8, H9, H10, H11. -/
import Derived.Test.YtlieaecnllkefaaGreatGHg
import Derived.Test.YtlieaecnllkefaaGreatGFg
import Derived.Test.YtlieaecnllkefaaGreatGXg
import Derived.Test.YtlieaecnllkefaaGreatGBg
import Derived.Test.YtlieaecnllkefaaGreatGGg
import Derived.Lib.SlBytesConst
/-! archipelagolaw6: known; lengths of numbers. -/
set_option linter.unusedVariables false
set_option linter.unusedSimpArgs false
set_option maxHeartbeats 4000000
set_option maxRecDepth 100000
namespace Go.Proofs.YtlieaecnllkefaaGreat
open Go Go.V Go.RowKit
theorem sQ{w:World}{A:OA}{n c:Nat}{l:List Int}(hr:aZ w A (bY l))(hn:n=l.length)(hA:∀ a,A=some a->l=[]∨a.block<w.heap.size):
    Calls P 123 #[.slice A n c] w fun ev w'=>ev=.returned (.pointer (some ⟨w.heap.size,0,none⟩))/\jt w' w.heap.size A n c l 0/\w.grownBy w' none:=by
  apply vc123;dsimp only[VC123,nb,iq];have g:=World.grownBy_alloc w (.cells #[.slice A n c,.int .i64 0] 240) none;exact⟨rfl,⟨by simpa using heap_alloc_new w (.cells #[.slice A n c,.int .i64 0] 240),hr.kept_none g,hn,by omega,fun a ha=>(hA a ha).imp id (fun h=>by omega)⟩,g⟩
end Go.Proofs.YtlieaecnllkefaaGreat
/-! archipelagolaw6.CodeFree: the walk. -/
namespace Go.Proofs.YtlieaecnllkefaaGreat
open Go Go.V Go.RowKit
theorem Ez(s t:Operand)(a b:Bool)(w:World):Sem.run P (do eqGuard .eql 4 s t (.bool a) (.bool b);Go.binOp .eql 4 (.bool a) (.bool b):Sem Value) w=.ok (.bool (a ==b)) w:=by
 cases a <;>cases b <;>kernel_rfl
end Go.Proofs.YtlieaecnllkefaaGreat
/-! archipelagolaw6.CodeTexts: the walk. -/
namespace Go.V
def fY(ls:List Int)(ss:List Nat):List Bool:=ss.flatMap fun s=>cK (cd ls s) (ln ls s).toNat
theorem sw(ls:List Int)(a b:List Nat):fY ls (a++b)=fY ls a++fY ls b:=by simp[fY]
theorem jQ(ls:List Int)(a:Nat)(b:List Nat):fY ls (a ::b)=cK (cd ls a) (ln ls a).toNat++fY ls b:=by simp[fY]
def vR(ls:List Int)(ss:List Nat):Int:=(ss.map (ln ls)).sum
theorem nk{ls:List Int}(h:cz ls=true)(ss:List Nat):((fY ls ss).length:Int)=vR ls ss:=by
 induction ss with
 | nil=>rfl
 | cons a ss ih =>
  have:=(er h).2.1 a;rw[jQ,List.length_append,ef];simp only[vR,List.map_cons,List.sum_cons]at ih ⊢;omega
theorem mP{ls:List Int}(h:cz ls=true)(ss:List Nat):0<=vR ls ss/\vR ls ss<=15*(ss.length:Int):=by
 induction ss with
 | nil=>simp[vR]
 | cons a ss ih =>
  have:=(er h).2.1 a;simp only[vR,List.map_cons,List.sum_cons,List.length_cons]at ih ⊢;omega
end Go.V
namespace Go.Proofs.YtlieaecnllkefaaGreat
open Go Go.V Go.RowKit
end Go.Proofs.YtlieaecnllkefaaGreat
/-! Numbers in few bytes: lists alone. Plain Lean; no program. -/
namespace Go.V
def cF(v:Nat):List Int:=if v<128 then [(v:Int)] else((v % 128+128:Nat):Int) ::cF (v / 128)
termination_by v
decreasing_by omega
theorem i6{v:Nat}(h:v<128):cF v=[(v:Int)]:=by unfold cF;rw[if_pos h]
theorem kU{v:Nat}(h:¬ v<128):cF v=((v % 128+128:Nat):Int) ::cF (v / 128):=by rw[cF,if_neg h]
theorem gu(v:Nat):∀ x∈cF v,0<=x/\x<=255:=by
 induction v using Nat.strongRecOn with
 | _ v ih =>
  by_cases h:v<128
  ·rw[i6 h];intro x hx;have:x=(v:Int):=by simpa using hx
   omega
  ·rw[kU h];intro x hx;rcases List.mem_cons.1 hx with e | e
   ·omega
   ·exact ih _ (by omega) x e
theorem kT(v:Nat):0<(cF v).length:=by
 by_cases h:v<128
 ·rw[i6 h];simp
 ·rw[kU h];simp
def iy(most:Int):List Int->Nat->Int->Int×Nat×Int
 | [],_,_=>(0,0,20)
 | c ::r,i,v=>if(i=9/\c>1)∨(i>0/\c=0) then(0,0,21) else
  if c≥128 then iy most r (i+1) (v+c % 128*2^(7*i)) else if v+c % 128*2^(7*i)>most then(0,0,22) else(v+c % 128*2^(7*i),i+1,0)
def dt(most:Int)(b:List Int):Int×Nat×Int:=iy most b 0 0
theorem Ca(most:Int)(rest:List Int):∀(n i:Nat)(v:Int),(0<i->0<n)->n*2^(7*i)<2^64->v+n*2^(7*i)<=most->iy most (cF n++rest) i v=(v+n*2^(7*i),i+(cF n).length,0):=by
 intro n
 induction n using Nat.strongRecOn with
 | _ n ih =>
  intro i v FX G9 hm;have hp:0<2^(7*i):=Nat.two_pow_pos _;by_cases h:n<128
  ·rw[i6 h];show iy most ((n:Int) ::rest) i v=_;unfold iy;have h9:¬ ((i=9/\(n:Int)>1)∨(i>0/\(n:Int)=0)):=by
    rintro(⟨e,e2⟩ | ⟨e,e2⟩)
    ·subst e;have:2*2^(7*9)<=n*2^(7*9):=Nat.mul_le_mul_right _ (by omega);omega
    ·have:=FX e;omega
   have L4:(n:Int) % 128=(n:Int):=by omega
   rw[if_neg h9,if_neg (by omega),L4,if_neg (by omega)];simp
  ·rw[kU h];show iy most (((n % 128+128:Nat):Int) ::(cF (n / 128)++rest)) i v=_;unfold iy;have h9:¬ ((i=9/\((n % 128+128:Nat):Int)>1)∨(i>0/\((n % 128+128:Nat):Int)=0)):=by
    rintro(⟨e,e2⟩ | ⟨e,e2⟩)
    ·subst e;have:128*2^(7*9)<=n*2^(7*9):=Nat.mul_le_mul_right _ (by omega);omega
    ·omega
   have L4:((n % 128+128:Nat):Int) % 128=((n % 128:Nat):Int):=by omega
   rw[if_neg h9,if_pos (by omega),L4];have e1:2^(7*(i+1))=128*2^(7*i):=by rw[show 7*(i+1)=7*i+7 by omega,Nat.pow_add];omega
   have e1':(2:Int)^(7*(i+1))=128*2^(7*i):=by rw[show 7*(i+1)=7*i+7 by omega,Int.pow_add];omega
   have e2:n / 128*(128*2^(7*i))+n % 128*2^(7*i)=n*2^(7*i):=by
    rw[← Nat.mul_assoc,← Nat.add_mul];congr 1;omega
   have e3:v+((n % 128:Nat):Int)*2^(7*i)+((n / 128:Nat):Int)*2^(7*(i+1))=v+(n:Int)*2^(7*i):=by
    rw[e1',← Int.mul_assoc,Int.add_assoc,← Int.add_mul];congr 2;omega
   rw[ih (n / 128) (by omega) (i+1) _ (fun _=>by omega) (by rw[e1];omega) (by rw[e3];exact hm),e3];simp;omega
theorem fL{most:Int}{n:Nat}(h:(n:Int)<=most)(P2:n<2^64)(rest:List Int):dt most (cF n++rest)=((n:Int),(cF n).length,0):=by
 have:=Ca most rest n 0 0 (by omega) (by simpa using P2) (by simpa using h);simpa[dt]using this
theorem xY (most:Int):∀(b:List Int)(i:Nat)(v:Int),(∀ x∈b,0<=x)->0<=v →
    ((iy most b i v).2.2=0/\i<(iy most b i v).2.1/\(iy most b i v).2.1<=i+b.length/\0<=(iy most b i v).1/\(iy most b i v).1<=most)∨((iy most b i v).2.2≠0/\(iy most b i v).2.1=0/\(iy most b i v).1=0)
  | [],i,v,_,_=>.inr ⟨by simp[iy],rfl,rfl⟩
  | c ::r,i,v,h,hv=>by
    have hc:=h c (by simp);have hm:0<=c % 128*2^(7*i):=Int.mul_nonneg (Int.emod_nonneg _ (by omega)) (Int.le_of_lt (eu _));unfold iy;split
    · exact .inr ⟨by simp,rfl,rfl⟩
    · split
      · rcases xY most r (i+1) (v+c % 128*2^(7*i)) (fun x hx=>h x (by simp[hx])) (by omega)with⟨e1,e2,e3,e4⟩ | e
        · exact .inl ⟨e1,by omega,by simp;omega,e4⟩
        · exact .inr e
      · split
        · exact .inr ⟨by simp,rfl,rfl⟩
        · exact .inl ⟨rfl,by simp,by simp,by simp;omega,by simp;omega⟩
theorem jV{most:Int}{b:List Int}(h:∀ x∈b,0<=x):((dt most b).2.2=0/\0<(dt most b).2.1/\(dt most b).2.1<=b.length/\0<=(dt most b).1/\(dt most b).1<=most)∨((dt most b).2.2≠0/\(dt most b).2.1=0/\(dt most b).1=0):=by
 have:=xY most b 0 0 h (by omega);simpa[dt]using this
end Go.V
/-! Numbers in few bytes, counts, bytes held against bytes: both texts. -/
namespace Go.Proofs.YtlieaecnllkefaaGreat
open Go Go.V Go.RowKit
abbrev pN(xs:List Nat):List Value:=xs.map fun x:Nat=>Value.int .u64 (x:Int)
theorem eJ{w:World}{base:Nat}{A:OA}{n c:Nat}{xs:List Int}{x:Int}(ho:aE w base 5 1 A n c (bY xs))(hn:n<=2^39)(hb:base<=w.heap.size):
    ∃ (A':OA) (n' c':Nat) (w':World),Sem.run P (Builtin.append_ #[26,26] 26 #[.slice A n c,.slice (some ⟨w.heap.size,0,none⟩) 1 1]) (w.alloc (.cells #[.int .u8 x] 5))=.ok (.slice A' n' c') w' ∧
      aE w' base 5 1 A' n' c' (bY (xs++[x]))/\w.grownBy w' (Value.slice A n c).ownBlock/\n'=n+1:=by
  have g:=World.grownBy_alloc w (.cells #[.int .u8 x] 5) none;have ro:=dg w #[.int .u8 x] 5;obtain⟨A',n',c',w',h1,h2,h3,h4,_⟩:=(ho.kept g).appends (ty:=26) nl (by omega) (a:=⟨w.heap.size,0,none⟩) (m:=1) (cc:=1) (us:=bY [x]) rfl (fun j u hj=>by obtain⟨b,q1,q2⟩:=ro j u hj;cases q1;exact q2) (fun u hu=>by simp at hu;rw[hu];rfl) (by omega) (Nat.le_trans hb g.size);exact⟨A',n',c',w',h1,by simpa using h2,aA (bZ g) h4,h3⟩
theorem aO{w:World}{base:Nat}{A B:OA}{n c m d:Nat}{xs ys:List Int}(ho:aE w base 5 1 A n c (bY xs))(hB:aZ w B (bY ys))(hm:m=ys.length)(hd:B=none->d=0)(hn:n+m<=2^39)(hb:base<=w.heap.size):
    ∃ (A':OA) (n' c':Nat) (w':World),Sem.run P (Builtin.append_ #[26,26] 26 #[.slice A n c,.slice B m d]) w=.ok (.slice A' n' c') w' ∧
      aE w' base 5 1 A' n' c' (bY (xs++ys))/\w.grownBy w' (Value.slice A n c).ownBlock/\n'=n+m:=by
  cases B with
  | none =>
    have:ys=[]:=by
      cases ys with
      | nil=>rfl
      | cons x l=>obtain⟨a,e,_⟩:=hB 0 _ rfl;cases e
    subst this;have Rk:=hd rfl;subst Rk;have KF:m=0:=by simpa using hm
    subst KF;exact⟨A,n,c,w,ho.appends_nil nl,by simpa using ho,aC _ _,rfl⟩
  | some a =>
    obtain⟨A',n',c',w',h1,h2,h3,h4,_⟩:=ho.appends (ty:=26) nl (by omega) (a:=a) (m:=m) (cc:=d) (us:=bY ys) (by simp[hm]) (fun j u hj=>by obtain⟨b,q1,q2⟩:=hB j u hj;cases q1;exact q2) (fun u hu=>by obtain⟨x,_,rfl⟩:=List.mem_map.1 hu;rfl) (by omega) hb;exact⟨A',n',c',w',h1,by simpa using h2,h4,h3⟩
theorem or128:∀ x:Nat,x<256->x ||| 128=x % 128+128:=by decide +kernel
theorem wF(v:Nat):dD .or .u8 (((v % 256:Nat)):Int) 128=((v % 128+128:Nat):Int):=by
 have e1:(BitVec.ofInt 8 ((v % 256:Nat):Int)).toNat=v % 256:=di (by omega);have e2:(BitVec.ofInt 8 ((128:Nat):Int)).toNat=128:=di (by omega);show IntKind.u8.wrap (((BitVec.ofInt 8 ((v % 256:Nat):Int) ||| BitVec.ofInt 8 ((128:Nat):Int)).toNat:Nat):Int)=_;rw[BitVec.toNat_or,e1,e2,or128 _ (by omega),show v % 256 % 128=v % 128 by omega];exact eS (k:=.u8) (show 0<=_/\_<=(255:Int) by omega)
theorem Ee(v:Nat):IntKind.u8.wrap (v:Int)=((v % 256:Nat):Int):=by
 show((v:Int) % 2^8)=_;omega
theorem Bf(v:Nat)(h:v<2^64):dD .and .u64 (v:Int) 127=((v % 128:Nat):Int):=by
 have e1:(BitVec.ofInt 64 (v:Int)).toNat=v:=di h;have e2:(BitVec.ofInt 64 ((127:Nat):Int)).toNat=127:=di (by omega);show IntKind.u64.wrap (((BitVec.ofInt 64 (v:Int) &&& BitVec.ofInt 64 ((127:Nat):Int)).toNat:Nat):Int)=_;rw[BitVec.toNat_and,e1,e2,show(127:Nat)=2^7-1 from rfl,Nat.and_two_pow_sub_one_eq_mod];exact eS (k:=.u64) (show 0<=_/\_<=(18446744073709551615:Int) by omega)
theorem CP{v:Int}(h:0<=v/\v<=255):dD .and .u8 v 127=v % 128:=by
 obtain⟨n,rfl⟩:∃ n:Nat,v=n:=⟨v.toNat,by omega⟩;have e1:(BitVec.ofInt 8 (n:Int)).toNat=n:=di (by omega);have e2:(BitVec.ofInt 8 ((127:Nat):Int)).toNat=127:=di (by omega);show IntKind.u8.wrap (((BitVec.ofInt 8 (n:Int) &&& BitVec.ofInt 8 ((127:Nat):Int)).toNat:Nat):Int)=_;rw[BitVec.toNat_and,e1,e2,show(127:Nat)=2^7-1 from rfl,Nat.and_two_pow_sub_one_eq_mod];rw[eS (k:=.u8) (show 0<=_/\_<=(255:Int) by omega)];omega
theorem xh{x c:Int}{j:Nat}(h0:0<=x)(hx:x<2^j)(hc:0<=c)(h:x+c*2^j<18446744073709551616):dD .or .u64 x (c*2^j)=x+c*2^j:=by
 obtain⟨n,rfl⟩:∃ n:Nat,x=n:=⟨x.toNat,by omega⟩;obtain⟨m,rfl⟩:∃ n:Nat,c=n:=⟨c.toNat,by omega⟩;have ep:((2^j:Nat):Int)=2^j:=by simp
 have em:((m*2^j:Nat):Int)=(m:Int)*2^j:=by rw[Int.natCast_mul,ep]
 rw[← em]at h ⊢;have e1:(BitVec.ofInt 64 (n:Int)).toNat=n:=di (by omega);have e2:(BitVec.ofInt 64 ((m*2^j:Nat):Int)).toNat=m*2^j:=di (by omega);show IntKind.u64.wrap (((BitVec.ofInt 64 (n:Int) ||| BitVec.ofInt 64 ((m*2^j:Nat):Int)).toNat:Nat):Int)=_;rw[BitVec.toNat_or,e1,e2,xi (by omega)];rw[eS (k:=.u64) (show 0<=_/\_<=(18446744073709551615:Int) by omega)];omega
def bC(l:List Nat):List Int:=l.flatMap cF
theorem ue(v:Nat)(k:Nat):v<2^(7*k)->0<k->(cF v).length<=k:=by
 induction k generalizing v with
 | zero=>intro _ h;omega
 | succ k ih =>
  intro h _;by_cases hv:v<128
  ·rw[i6 hv];simp
  ·rw[kU hv,List.length_cons];have:0<k:=by
    rcases Nat.eq_zero_or_pos k with e | e
    ·subst e;simp at h;omega
    ·exact e
   have:=ih (v / 128) (by
    rw[show 7*(k+1)=7*k+7 by omega,Nat.pow_add]at h;exact Nat.div_lt_of_lt_mul (by omega)) this
   omega
theorem cR{v:Nat}(h:v<2^64):(cF v).length<=10:=ue v 10 (Nat.lt_of_lt_of_le h (by decide)) (by omega)
theorem fN{l:List Nat}(h:∀ x∈l,x<2^64):(bC l).length<=10*l.length:=by
 induction l with
 | nil=>simp[bC]
 | cons x l ih =>
  have h1:=cR (h x (by simp));have h2:=ih (fun y hy=>h y (by simp[hy]));simp only[bC,List.flatMap_cons,List.length_append,List.length_cons]at h2 ⊢;omega
theorem iW {w:World} {A:OA} {n c:Nat} {l:List Nat} (hr:aZ w A (pN l)) (hn:n=l.length) (hb:∀ x∈l,x<2^64) (hl:n<=2^20) :
    Calls P 70 #[.slice A n c] w fun ev w'=>∃(A':OA)(n' c':Nat),ev=.returned (.slice A' n' c')/\aE w' w.heap.size 5 1 A' n' c' (bY (bC l))/\w.grownBy w' none:=by
  apply vc70;dsimp only[VC70,Br,Rd,Ix,Ap,nb]
  try simp only[aG]
  refine⟨fun m Ao no co i w1=>∃ j:Nat,i=(j:Int)/\j<=l.length/\m=l.length-j/\aE w1 w.heap.size 5 1 Ao no co (bY (bC (l.take j)))/\w.grownBy w1 none,⟨_,0,rfl,by omega,rfl,aE.nil _ _ _ _,aC _ _⟩,?_⟩;rintro m Ao no co i w1 ⟨j,rfl,hj,rfl,ho,hg⟩;have tj:(j:Int).toNat=j:=by omega
  rw[tj];refine⟨fun FP=>?_,fun FU=>?_⟩
  · have lj:j<l.length:=by omega
    obtain⟨a,Ge,Gb⟩:=(hr.kept_none hg) j (.int .u64 (l[j]:Int)) (by simp[lj]);have hx:=hb _ (List.getElem_mem lj);have JP:=fN (l:=l.take j) (fun x hx=>hb x (List.mem_of_mem_take hx));have I9:(l.take j).length=j:=by simp;omega
    have Ie:=cR hx;refine⟨a,Ge,by omega,by omega,_,Gb,?_⟩;refine⟨fun m Ao no co v w2=>∃(u:Nat)(bs:List Int),v=(u:Int)/\m=u/\u<2^64/\bs++cF u=cF l[j]/\aE w2 w.heap.size 5 1 Ao no co (bY (bC (l.take j)++bs))/\w.grownBy w2 none,⟨_,l[j],[],rfl,rfl,hx,rfl,by simpa using ho,hg⟩,?_⟩;rintro m Ao no co v w2 ⟨u,bs,rfl,M6,hu,HW,Gz,FY⟩;subst M6;have Ip:bs.length<=10:=by
      have:=congrArg List.length HW;rw[List.length_append]at this;omega
    have Hm:no=(bC (l.take j)++bs).length:=by have:=Gz.cases.1;rw[List.length_map]at this;omega
    have JT:no<=2^39:=by rw[Hm,List.length_append];omega
    refine⟨fun FU=>?_,fun GI=>?_⟩
    · have I4:¬ m<128:=by omega
      rw[Ee,wF];obtain⟨A3,n3,c3,w3,e1,e2,e3,_⟩:=eJ (x:=((m % 128+128:Nat):Int)) Gz JT FY.size;refine⟨A3,n3,c3,w3,e1,by omega,m / 128,by omega,m / 128,bs++[((m % 128+128:Nat):Int)],by omega,rfl,by omega,?_,by simpa using e2,aN FY e3 Gz.block_ge⟩;rw[← HW,kU I4];simp
    · have I4:m<128:=by omega
      obtain⟨A3,n3,c3,w3,e1,e2,e3,_⟩:=eJ (x:=(m:Int)) Gz JT FY.size;refine⟨by omega,A3,n3,c3,w3,e1,by omega,l.length-(j+1),by omega,j+1,by omega,by omega,rfl,?_,aN FY e3 Gz.block_ge⟩;have:bC (l.take (j+1))=bC (l.take j)++bs++[(m:Int)]:=by
        rw[i6 I4]at HW;rw[List.take_succ_eq_append_getElem lj,bC,List.flatMap_append,List.append_assoc,HW];simp[bC]
      rw[this];exact e2
  · have:j=l.length:=by omega
    subst this;rw[List.take_length]at ho;exact⟨_,_,_,rfl,ho,hg⟩
theorem kq {w:World} {A:OA} {n c:Nat} {l:List Nat} (hr:aZ w A (pN l)) (hn:n=l.length) (hb:∀ x∈l,x<2^64) (hl:n<=2^20) :
    Calls P 80 #[.slice A n c] w fun ev w'=>∃(A':OA)(n' c':Nat),ev=.returned (.slice A' n' c')/\aE w' w.heap.size 5 1 A' n' c' (bY (bC l))/\w.grownBy w' none:=by
  apply vc80;dsimp only[VC80,Br,Rd,Ix,Ap,nb]
  try simp only[aG]
  refine⟨fun m Ao no co i w1=>∃ j:Nat,i=(j:Int)/\j<=l.length/\m=l.length-j/\aE w1 w.heap.size 5 1 Ao no co (bY (bC (l.take j)))/\w.grownBy w1 none,⟨_,0,rfl,by omega,rfl,aE.nil _ _ _ _,aC _ _⟩,?_⟩;rintro m Ao no co i w1 ⟨j,rfl,hj,rfl,ho,hg⟩;have tj:(j:Int).toNat=j:=by omega
  rw[tj];refine⟨fun FP=>?_,fun FU=>?_⟩
  · have lj:j<l.length:=by omega
    obtain⟨a,Ge,Gb⟩:=(hr.kept_none hg) j (.int .u64 (l[j]:Int)) (by simp[lj]);have hx:=hb _ (List.getElem_mem lj);have JP:=fN (l:=l.take j) (fun x hx=>hb x (List.mem_of_mem_take hx));have I9:(l.take j).length=j:=by simp;omega
    have Ie:=cR hx;refine⟨a,Ge,by omega,by omega,_,Gb,?_⟩;refine⟨fun m Ao no co v w2=>∃(u:Nat)(bs:List Int),v=(u:Int)/\m=u/\u<2^64/\bs++cF u=cF l[j]/\aE w2 w.heap.size 5 1 Ao no co (bY (bC (l.take j)++bs))/\w.grownBy w2 none,⟨_,l[j],[],rfl,rfl,hx,rfl,by simpa using ho,hg⟩,?_⟩;rintro m Ao no co v w2 ⟨u,bs,rfl,M6,hu,HW,Gz,FY⟩;subst M6;have Ip:bs.length<=10:=by
      have:=congrArg List.length HW;rw[List.length_append]at this;omega
    have Hm:no=(bC (l.take j)++bs).length:=by have:=Gz.cases.1;rw[List.length_map]at this;omega
    have JT:no<=2^39:=by rw[Hm,List.length_append];omega
    refine⟨fun FU=>?_,fun GI=>?_⟩
    · have I4:¬ m<128:=by omega
      rw[Bf m hu];have Tf:=wF (m % 128);rw[show m % 128 % 256=m % 128 by omega,show m % 128 % 128=m % 128 by omega]at Tf;rw[Tf];obtain⟨A3,n3,c3,w3,e1,e2,e3,_⟩:=eJ (x:=((m % 128+128:Nat):Int)) Gz JT FY.size;refine⟨by omega,A3,n3,c3,w3,e1,by omega,m / 128,by omega,m / 128,bs++[((m % 128+128:Nat):Int)],by omega,rfl,by omega,?_,by simpa using e2,aN FY e3 Gz.block_ge⟩;rw[← HW,kU I4];simp
    · have I4:m<128:=by omega
      obtain⟨A3,n3,c3,w3,e1,e2,e3,_⟩:=eJ (x:=(m:Int)) Gz JT FY.size;refine⟨by omega,A3,n3,c3,w3,e1,by omega,l.length-(j+1),by omega,j+1,by omega,by omega,rfl,?_,aN FY e3 Gz.block_ge⟩;have:bC (l.take (j+1))=bC (l.take j)++bs++[(m:Int)]:=by
        rw[i6 I4]at HW;rw[List.take_succ_eq_append_getElem lj,bC,List.flatMap_append,List.append_assoc,HW];simp[bC]
      rw[this];exact e2
  · have:j=l.length:=by omega
    subst this;rw[List.take_length]at ho;exact⟨_,_,_,rfl,ho,hg⟩
abbrev El(t:Int×Nat×Int):Value:=.tuple #[.int .u64 t.1,.int .i64 (t.2.1:Int),.int .i64 t.2.2]
theorem z6{i:Nat}(h:i<=9):(0:Int)<2^(7*i)/\(2:Int)^(7*i)<=2^63:=by
 have e1:((2^(7*i):Nat):Int)=2^(7*i):=by simp
 have:=Nat.pow_le_pow_right (n:=2) (by omega) (show 7*i<=63 by omega);have:=Nat.two_pow_pos (7*i);omega
theorem vstep{v c:Int}{i:Nat}(hi:i<=9)(hc:0<=c/\c<=255)(h9:i=9->c<=1)(hv:0<=v/\v<2^(7*i)):dD .or .u64 v (c % 128*2^(7*i))=v+c % 128*2^(7*i)/\0<=c % 128*2^(7*i)/\c % 128*2^(7*i)<=18446744073709551615/\v+c % 128*2^(7*i)<2^(7*(i+1)):=by
 obtain⟨p1,p2⟩:=z6 hi;have hm:0<=c % 128/\c % 128<=127:=by omega
 have h0:0<=c % 128*2^(7*i):=Int.mul_nonneg hm.1 (Int.le_of_lt p1);have Ga:c % 128*2^(7*i)<=127*2^(7*i):=Int.mul_le_mul_of_nonneg_right hm.2 (Int.le_of_lt p1);have e1:(2:Int)^(7*(i+1))=128*2^(7*i):=by rw[show 7*(i+1)=7*i+7 by omega,Int.pow_add];omega
 have hb:v+c % 128*2^(7*i)<18446744073709551616:=by
  by_cases h:i=9
  ·subst h;have:=h9 rfl;have Ka:c % 128<=1:=by omega
   have:c % 128*2^(7*9)<=1*2^(7*9):=Int.mul_le_mul_of_nonneg_right Ka (by decide);have e:(2:Int)^(7*9)=9223372036854775808:=by decide
   rw[e]at this hv ⊢;omega
  ·have h8:i<=8:=by omega
   have e2:((2^(7*i):Nat):Int)=2^(7*i):=by simp
   have:=Nat.pow_le_pow_right (n:=2) (by omega) (show 7*i<=56 by omega);omega
 exact⟨xh hv.1 hv.2 hm.1 hb,h0,by omega,by rw[e1];omega⟩
theorem mK {w:World} {A:OA} {n c:Nat} {b:List Int} {most:Int} (hr:aZ w A (bY b)) (hn:n=b.length) (hb:∀ x∈b,0<=x/\x<=255) (hl:n<=2^40) :
    Calls P 120 #[.slice A n c,.int .u64 most] w fun ev w'=>ev=.returned (El (dt most b))/\w.grownBy w' none:=by
  apply vc120;dsimp only[VC120,rt,Br,Bb,Rd,Ix,iq]
  try simp only[aG]
  refine⟨fun m v i w1=>∃ j:Nat,i=(j:Int)/\j<=b.length/\m=b.length-j/\j<=9/\0<=v/\v<2^(7*j)/\dt most b=iy most (b.drop j) j v/\w.grownBy w1 none,⟨_,0,rfl,by omega,rfl,by omega,by omega,by simp,rfl,aC _ _⟩,?_⟩;rintro m v i w1 ⟨j,rfl,hj,rfl,Vf,Kz,Kn,GD,hg⟩;have tj:(j:Int).toNat=j:=by omega
  have t7:(7*(j:Int)).toNat=7*j:=by omega
  have m64:min (7*j) 64=7*j:=by omega
  rw[tj,t7,m64];refine⟨fun FP=>?_,fun FU=>?_⟩
  · have lj:j<b.length:=by omega
    obtain⟨a,Ge,Gb⟩:=(hr.kept_none hg) j (.int .u8 b[j]) (by simp[lj]);have hc:=hb _ (List.getElem_mem lj);rw[List.drop_eq_getElem_cons lj]at GD;rw[iy]at GD;refine⟨a,Ge,by omega,by omega,_,Gb,fun q w2=>w2=w1/\(q=true↔(j=9/\b[j]>1)∨(j>0/\b[j]=0)),⟨fun h9=>⟨fun h1=>⟨rfl,by simp;omega⟩,fun h1=>⟨fun h0=>⟨rfl,by simp;omega⟩,fun h0=>⟨rfl,by simp;omega⟩⟩⟩,fun h9=>⟨fun h0=>⟨rfl,by simp;omega⟩,fun h0=>⟨rfl,by simp;omega⟩⟩⟩,?_⟩;rintro q w2 ⟨rfl,hq⟩;refine⟨fun h=>⟨?_,hg⟩,fun h=>?_⟩
    · rw[if_pos (hq.1 h)]at GD;rw[GD];rfl
    · have UR:¬ ((j=9/\b[j]>1)∨(j>0/\b[j]=0)):=fun e=>by rw[hq.2 e]at h;cases h
      rw[if_neg UR]at GD;rw[CP hc];obtain⟨s1,s2,s3,s4⟩:=vstep Vf hc (fun e=>by omega) ⟨Kz,Kn⟩;rw[s1];refine⟨by omega,by omega,⟨by omega,by omega,by omega⟩,fun FU=>?_,fun GI=>⟨fun hm=>⟨?_,hg⟩,fun hm=>⟨by omega,?_,hg⟩⟩⟩
      · rw[if_pos FU]at GD;exact⟨by omega,b.length-(j+1),by omega,j+1,by omega,by omega,rfl,by omega,by omega,s4,GD,hg⟩
      · rw[if_neg GI,if_pos hm]at GD;rw[GD];rfl
      · rw[if_neg GI,if_neg hm]at GD;rw[GD];rfl
  · have:j=b.length:=by omega
    subst this;rw[List.drop_length]at GD;rw[GD];exact⟨rfl,hg⟩
theorem pZ{zs:List Int}{k:Nat}(h:k<zs.length):(aT zs)[k]?=some (.int .i64 (zs.getD k 0)):=by
 simp[List.getD_eq_getElem?_getD,h]
theorem uE(zs:List Int)(k:Nat)(v:Int):(aT zs).set k (.int .i64 v)=aT (zs.set k v):=by simp[List.map_set]
def pF(b:List Int):List Int:=ek (b.map Int.toNat) (List.replicate 256 0)
theorem zh(b:List Int):(pF b).length=256:=by rw[pF,dv];simp
theorem vC{w:World}{A:OA}{n c:Nat}{b:List Int}(hr:aZ w A (bY b))(hn:n=b.length)(hb:∀ x∈b,0<=x/\x<=255)(hl:n<=2^40):
    Calls P 111 #[.slice A n c] w fun ev w'=>∃(A':OA)(n' c':Nat),ev=.returned (.slice A' n' c')/\cP w' w.heap.size 3 A' n' c' (aT (pF b))/\w.grownBy w' none:=by
  apply vc111;dsimp only[VC111,Wt,Br,Rd,Ix,iq]
  try simp only[aG]
  obtain⟨w1,HN,FR,g1⟩:=jm (P:=P) (w:=w) jh (by omega) (m:=256) (by omega);refine⟨_,_,_,w1,HN,?_⟩;have hA:∀ a,A=some a->b=[]∨a.block<w.heap.size:=fun a ha=>by
    by_cases e:b=[]
    · exact .inl e
    · obtain⟨q,e1,e2⟩:=hr.blk (by simpa using e);rw[ha]at e1;cases e1;exact .inr e2
  refine⟨fun m i w2=>∃ j:Nat,i=(j:Int)/\j<=b.length/\m=b.length-j/\cQ w2 w.heap.size 3 256 (aT (ek ((b.take j).map Int.toNat) (List.replicate 256 0)))/\w1.grownBy w2 (some w.heap.size),
    ⟨_,0,rfl,by omega,rfl,by simpa[ek,aT]using FR,aC _ _⟩,?_⟩
  rintro m i w2 ⟨j,rfl,hj,rfl,ho,hg⟩;have tj:(j:Int).toNat=j:=by omega
  rw[tj];have Qc:(ek ((b.take j).map Int.toNat) (List.replicate 256 0)).length=256:=by rw[dv];simp
  refine⟨fun FP=>?_,fun FU=>?_⟩
  · have lj:j<b.length:=by omega
    have hc:=hb _ (List.getElem_mem lj);have rowb:aZ w2 A (bY b):=(hr.kept_none g1).kept hg (fun a ha=>by
      rcases hA a ha with e | e
      · rw[e]at lj;simp at lj
      · simp;omega)
    obtain⟨a,Ge,Gb⟩:=rowb j (.int .u8 b[j]) (by simp[lj]);have hs:b[j].toNat<256:=by omega
    have FV:=ho.cell (j:=b[j].toNat) (u:=.int .i64 ((ek ((b.take j).map Int.toNat) (List.replicate 256 0)).getD b[j].toNat 0)) (pZ (by omega));have GA:=gK ((b.take j).map Int.toNat) (xs:=List.replicate 256 0) (B:=0) (by simp) (by omega);have hv:=GA ((ek ((b.take j).map Int.toNat) (List.replicate 256 0)).getD b[j].toNat 0) (by
      rw[List.getD_eq_getElem?_getD,List.getElem?_eq_getElem (by omega)];exact List.getElem_mem _)
    have Jj:((b.take j).map Int.toNat).length=j:=by simp;omega
    refine⟨a,Ge,by omega,by omega,_,Gb,_,rfl,by omega,by omega,_,FV,by omega,_,rfl,by omega,by omega,⟨_,FV⟩,ho.notFrozen (aL _ _),by omega,b.length-(j+1),by omega,j+1,by omega,by omega,rfl,?_,bF hg (aL _ _) _⟩;rw[List.take_succ_eq_append_getElem lj,List.map_append,ik];have Gy:=ho.set (j:=b[j].toNat) (by rw[List.length_map];omega) (.int .i64 ((ek ((b.take j).map Int.toNat) (List.replicate 256 0)).getD b[j].toNat 0+1));rw[uE]at Gy;exact Gy
  · have:j=b.length:=by omega
    subst this;rw[List.take_length]at ho;have h5:=ho.ownsRow (Nat.le_refl _) (by simp only[maxLen];omega);have M7:(aT (ek (b.map Int.toNat) (List.replicate 256 0))).length=256:=by simp[aT,dv]
    rw[M7]at h5;exact⟨_,_,_,rfl,h5,aN g1 hg (by intro k hk;cases hk;omega)⟩
theorem tY{w:World}{A:OA}{n c:Nat}{b:List Int}(hr:aZ w A (bY b))(hn:n=b.length)(hb:∀ x∈b,0<=x/\x<=255)(hl:n<=2^40):
    Calls P 118 #[.slice A n c] w fun ev w'=>∃(A':OA)(n' c':Nat),ev=.returned (.slice A' n' c')/\cP w' w.heap.size 3 A' n' c' (aT (pF b))/\w.grownBy w' none:=by
  apply vc118;dsimp only[VC118,Wt,Br,Rd,Ix,iq]
  try simp only[aG]
  obtain⟨w1,HN,FR,g1⟩:=jm (P:=P) (w:=w) jh (by omega) (m:=256) (by omega);refine⟨_,_,_,w1,HN,?_⟩;have hA:∀ a,A=some a->b=[]∨a.block<w.heap.size:=fun a ha=>by
    by_cases e:b=[]
    · exact .inl e
    · obtain⟨q,e1,e2⟩:=hr.blk (by simpa using e);rw[ha]at e1;cases e1;exact .inr e2
  refine⟨fun m i w2=>∃ j:Nat,i=(j:Int)/\j<=b.length/\m=b.length-j/\cQ w2 w.heap.size 3 256 (aT (ek ((b.take j).map Int.toNat) (List.replicate 256 0)))/\w1.grownBy w2 (some w.heap.size),
    ⟨_,0,rfl,by omega,rfl,by simpa[ek,aT]using FR,aC _ _⟩,?_⟩
  rintro m i w2 ⟨j,rfl,hj,rfl,ho,hg⟩;have tj:(j:Int).toNat=j:=by omega
  rw[tj];have Qc:(ek ((b.take j).map Int.toNat) (List.replicate 256 0)).length=256:=by rw[dv];simp
  refine⟨fun FP=>?_,fun FU=>?_⟩
  · have lj:j<b.length:=by omega
    have hc:=hb _ (List.getElem_mem lj);have rowb:aZ w2 A (bY b):=(hr.kept_none g1).kept hg (fun a ha=>by
      rcases hA a ha with e | e
      · rw[e]at lj;simp at lj
      · simp;omega)
    obtain⟨a,Ge,Gb⟩:=rowb j (.int .u8 b[j]) (by simp[lj]);have hs:b[j].toNat<256:=by omega
    have FV:=ho.cell (j:=b[j].toNat) (u:=.int .i64 ((ek ((b.take j).map Int.toNat) (List.replicate 256 0)).getD b[j].toNat 0)) (pZ (by omega));have GA:=gK ((b.take j).map Int.toNat) (xs:=List.replicate 256 0) (B:=0) (by simp) (by omega);have hv:=GA ((ek ((b.take j).map Int.toNat) (List.replicate 256 0)).getD b[j].toNat 0) (by
      rw[List.getD_eq_getElem?_getD,List.getElem?_eq_getElem (by omega)];exact List.getElem_mem _)
    have Jj:((b.take j).map Int.toNat).length=j:=by simp;omega
    refine⟨a,Ge,by omega,by omega,_,Gb,_,rfl,by omega,by omega,_,FV,by omega,_,rfl,by omega,by omega,⟨_,FV⟩,ho.notFrozen (aL _ _),by omega,b.length-(j+1),by omega,j+1,by omega,by omega,rfl,?_,bF hg (aL _ _) _⟩;rw[List.take_succ_eq_append_getElem lj,List.map_append,ik];have Gy:=ho.set (j:=b[j].toNat) (by rw[List.length_map];omega) (.int .i64 ((ek ((b.take j).map Int.toNat) (List.replicate 256 0)).getD b[j].toNat 0+1));rw[uE]at Gy;exact Gy
  · have:j=b.length:=by omega
    subst this;rw[List.take_length]at ho;have h5:=ho.ownsRow (Nat.le_refl _) (by simp only[maxLen];omega);have M7:(aT (ek (b.map Int.toNat) (List.replicate 256 0))).length=256:=by simp[aT,dv]
    rw[M7]at h5;exact⟨_,_,_,rfl,h5,aN g1 hg (by intro k hk;cases hk;omega)⟩
theorem ij{w:World}{A B:OA}{n c m d:Nat}{a b:List Int}(hA:aZ w A (bY a))(hn:n=a.length)(hB:aZ w B (bY b))(hm:m=b.length)(ha:∀ x∈a,0<=x/\x<=255)(hb:∀ x∈b,0<=x/\x<=255):
    Calls P 50 #[.slice A n c,.slice B m d] w fun ev w'=>ev=.returned (.bool (decide (a=b)))/\w'=w:=by
  apply vc50;dsimp only[VC50,Eg,Cv];refine⟨_,ji hA hn,_,ji hB hm,_,fun w=>C9 _ _ _ _ w,?_,rfl⟩;have:decide (ry a=ry b)=decide (a=b):=by
    rw[decide_eq_decide];exact⟨Cb ha hb,fun h=>by rw[h]⟩
  rw[this]
end Go.Proofs.YtlieaecnllkefaaGreat
/-! Bytes in fewer ones: lists alone. -/
namespace Go.Proofs.YtlieaecnllkefaaGreat
open Go Go.V Go.RowKit
abbrev aW(b:List Int):Prop:=∀ x∈b,0<=x/\x<=255
abbrev fe(b:List Int):List Nat:=b.map Int.toNat
def lF(b:List Int):List Int:=dq (pF b) 15
def dC:List Int->Nat->Nat->List Int
 | [],_,_=>[]
 | x ::l,s,nx=>if 0<x then cF (s-nx)++(cF x.toNat++dC l (s+1) (s+1)) else dC l (s+1) nx
def de(b:List Int):List Int:=if b=[] then cF 0 else cF b.length++(cF (cZ (lF b))++(dC (lF b) 0 0++dN (fY (lF b) (fe b))))
theorem FC:cw 15=15:=by decide
theorem DH(b:List Int){s:Nat}(hs:s<256):(pF b).getD s 0=((fe b).count s:Int):=by
 rw[pF,vf _ _ _ (by simpa using hs)];have:(List.replicate 256 (0:Int)).getD s 0=0:=by
  rw[List.getD_eq_getElem?_getD,List.getElem?_replicate];split <;>rfl
 simp only[fe];omega
theorem uS(p:Nat->Bool):∀ n:Nat,(((List.range n).filter p).length:Int)=aQ n (fun s=>if p s=true then 1 else 0)
 | 0=>by simp[aQ]
 | n+1=>by
  rw[List.range_succ,List.filter_append,List.length_append];have:=uS p n;simp only[aQ];by_cases h:p n=true
  ·simp[h];omega
  ·simp[h];omega
theorem z9{ls xs:List Int}(hl:ls.length=xs.length)(h:∀ s,s<xs.length->(0<ln ls s↔0<xs.getD s 0)):(jv ls).length=(aK xs).length:=by
 have h1:=uS (fun s=>decide (0<ln ls s)) ls.length;have h2:=kz xs;have h3:aQ ls.length (fun s=>if decide (0<ln ls s)=true then(1:Int) else 0)=PS xs (fun _=>1):=by
  unfold PS;rw[hl];apply bP;intro s hs;have:=h s hs;by_cases e:0<ln ls s
  ·rw[if_pos (by simpa using e),if_pos (this.1 e)]
  ·have e2:¬ 0<xs.getD s 0:=fun q=>e (this.2 q);simp only[e,decide_false,if_neg e2,Bool.false_eq_true,if_false]
 show(((List.range ls.length).filter fun s=>decide (0<ln ls s)).length)=_;omega
theorem CI{xs:List Int}{s:Nat}(hs:s<xs.length)(hp:0<xs.getD s 0):1<=(aK xs).length:=by
 have h2:=kz xs;have h3:=gP (fun _=>(1:Int)) hs;have h5:aQ xs.length (fun j=>if j=s then(1:Int) else 0)<=PS xs (fun _=>1):=by
  apply jk;intro i hi;by_cases e1:i=s
  ·subst e1;simp only[hp,if_true];omega
  ·simp only[e1,if_false];split <;>omega
 rw[h3]at h5;omega
theorem Am{xs:List Int}(h:xs.length=256)(h1:1<=(aK xs).length):cz (dq xs 15)=true:=by
 have Ik:=gk xs;have hn:(aK xs).length<=2^cw 15:=by rw[FC];omega
 have hm:1<=cw 15:=by rw[FC];omega
 have FT:(dq xs 15).length=xs.length:=mg (by omega) hn;have Ga:=fun s (hs:s<xs.length)=>BB (most:=15) (by omega) hn hm hs;rw[FC]at Ga;have FZ:∀ x∈dq xs 15,0<=x/\x<=15:=by
  intro x hx;obtain⟨s,hs,rfl⟩:=List.mem_iff_getElem.1 hx;have:=Ga s (by omega);have e:(dq xs 15).getD s 0=(dq xs 15)[s]:=by simp[List.getD_eq_getElem?_getD,hs]
  omega
 unfold cz;have a1:decide ((dq xs 15).length<=256)=true:=by simp;omega
 have a2:(dq xs 15).all (fun x=>decide (0<=x/\x<=15))=true:=by
  rw[List.all_eq_true];intro x hx;simpa using FZ x hx
 rw[a1,a2,Bool.true_and,Bool.true_and];by_cases h2:2<=(aK xs).length
 ·have:=Dp (most:=15) (by omega) h2 hn hm (by rw[FC];omega);simp[this]
 ·have Ih:(aK xs).length=1:=by omega
  have hp:=z9 FT (fun s hs=>(Ga s hs).2.2);have O6:(dq xs 15).all (fun x=>decide (x<=1))=true:=by
   rw[List.all_eq_true];intro x hx;obtain⟨s,hs,rfl⟩:=List.mem_iff_getElem.1 hx;have e:(dq xs 15).getD s 0=(dq xs 15)[s]:=by simp[List.getD_eq_getElem?_getD,hs]
   rw[← e,qR (by omega) hn (by omega)];obtain⟨c,hc⟩:=List.length_eq_one_iff.1 Ih;have Na:(bX xs (cw 15)).length=1:=by
    unfold bX;rw[if_pos Ih,hc];have:=(nv (xs:=xs) (c:=c) (by rw[hc];simp)).1;simp[this]
   have:=List.count_le_length (a:=s) (l:=bX xs (cw 15));simp;omega
  rw[O6,hp,Ih];simp
theorem fu{b:List Int}(h:aW b)(FS:b≠[]):(lF b).length=256/\cz (lF b)=true/\(∀ x∈fe b,x<(lF b).length/\0<ln (lF b) x)/\(∀ v∈lF b,0<=v/\v<=15):=by
 have hl:=zh b;have GQ:∀ x∈fe b,x<256/\0<(pF b).getD x 0:=by
  intro x hx;obtain⟨y,hy,rfl⟩:=List.mem_map.1 hx;have:=h y hy;refine⟨by omega,?_⟩;rw[DH b (by omega)];have:=List.count_pos_iff.2 hx;omega
 have h1:1<=(aK (pF b)).length:=by
  obtain⟨y,t,rfl⟩:=List.exists_cons_of_ne_nil FS;have:=GQ y.toNat (by simp);exact CI (s:=y.toNat) (by omega) this.2
 have hr:=Am hl h1;have Ik:=gk (pF b);have hn:(aK (pF b)).length<=2^cw 15:=by rw[FC];omega
 have hm:1<=cw 15:=by rw[FC];omega
 have FT:(lF b).length=256:=by rw[lF,mg (by omega) hn,hl]
 have Ga:=fun s (hs:s<(pF b).length)=>BB (most:=15) (by omega) hn hm hs;rw[FC]at Ga;refine⟨FT,hr,fun x hx=>⟨by have:=GQ x hx;omega,((Ga x (by have:=GQ x hx;omega)).2.2).2 (GQ x hx).2⟩,?_⟩;intro v hv;obtain⟨s,hs,rfl⟩:=List.mem_iff_getElem.1 hv;have:=Ga s (by omega);have e:(dq (pF b) 15).getD s 0=(lF b)[s]:=by
  show(lF b).getD s 0=_;simp[List.getD_eq_getElem?_getD,hs]
 omega
theorem nR:∀(l:List Int)(s nx:Nat),nx<=s->0<cZ l->∃(i:Nat)(x:Int),l[i]?=some x/\0<x/\(∀ j y,j<i->l[j]?=some y->¬ 0<y) ∧
    dC l s nx=cF (s+i-nx)++(cF x.toNat++dC (l.drop (i+1)) (s+i+1) (s+i+1))/\cZ l=1+cZ (l.drop (i+1))
  | [],s,nx,_,h=>by simp[cZ]at h
  | x ::l,s,nx,Ga,h=>by
    by_cases hx:0<x
    · refine⟨0,x,rfl,hx,fun j y hj=>by omega,?_,?_⟩
      · simp[dC,hx]
      · simp[cZ,hx];omega
    · have hp:cZ (x ::l)=cZ l:=by simp[cZ,hx]
      obtain⟨i,y,h1,h2,h3,h4,h5⟩:=nR l (s+1) nx (by omega) (by omega);refine⟨i+1,y,by simpa using h1,h2,?_,?_,?_⟩
      · intro j z hj hz;cases j with
        | zero=>simp at hz;subst hz;exact hx
        | succ j=>exact h3 j z (by omega) (by simpa using hz)
      · rw[dC,if_neg hx,h4];simp only[List.drop_succ_cons];rw[show s+1+i-nx=s+(i+1)-nx by omega,show s+1+i+1=s+(i+1)+1 by omega]
      · rw[hp,h5];simp
theorem p9:∀(l:List Int)(s nx:Nat),cZ l=0->dC l s nx=[]/\∀ x∈l,¬ 0<x
 | [],s,nx,_=>by simp[dC]
 | x ::l,s,nx,h=>by
  have hx:¬ 0<x:=by intro hx;simp[cZ,hx]at h
  have hp:cZ l=0:=by simpa[cZ,hx]using h
  obtain⟨h1,h2⟩:=p9 l (s+1) nx hp;refine⟨by rw[dC,if_neg hx,h1],fun y hy=>?_⟩;rcases List.mem_cons.1 hy with e | e
  ·rw[e];exact hx
  ·exact h2 y e
def qI(ls:List Int)(k:Nat):List Int:=ls.take k++List.replicate (256-k) 0
theorem kl{ls:List Int}{k:Nat}(hl:ls.length=256)(hk:k<=256):(qI ls k).length=256:=by simp[qI];omega
theorem tH{ls:List Int}{k j:Nat}(hl:ls.length=256)(hk:k<=256)(hj:j<256):(qI ls k)[j]?=some (if j<k then ln ls j else 0):=by
 unfold qI;by_cases h:j<k
 ·rw[List.getElem?_append_left (by simp;omega),List.getElem?_take,if_pos h,if_pos h,ln,List.getD_eq_getElem?_getD,List.getElem?_eq_getElem (by omega)];rfl
 ·rw[List.getElem?_append_right (by simp;omega),List.getElem?_replicate,if_neg h,if_pos (by simp;omega)]
theorem BY(ls:List Int):qI ls 0=List.replicate 256 0:=by simp[qI]
theorem BZ{ls:List Int}{k i:Nat}{x:Int}(hl:ls.length=256)(hr:∀ v∈ls,0<=v)(hk:k<=256)(hi:(ls.drop k)[i]?=some x)(hz:∀ j y,j<i->(ls.drop k)[j]?=some y->¬ 0<y):k+i<256/\(qI ls k).set (k+i) x=qI ls (k+i+1):=by
 rw[List.getElem?_drop]at hi;have FP:=(List.getElem?_eq_some_iff.1 hi).1;refine⟨by omega,?_⟩;apply List.ext_getElem?;intro j;by_cases hj:j<256
 ·rw[List.getElem?_set,tH hl hk hj,tH hl (by omega) hj];by_cases e:k+i=j
  ·subst e;rw[if_pos rfl,if_pos (by rw[kl hl hk];omega),if_pos (by omega),ln,List.getD_eq_getElem?_getD,hi];rfl
  ·rw[if_neg e];by_cases h1:j<k
   ·rw[if_pos h1,if_pos (by omega)]
   ·rw[if_neg h1];by_cases h2:j<k+i+1
    ·rw[if_pos h2];have GO:j<ls.length:=by omega
     have:=hz (j-k) ls[j] (by omega) (by rw[List.getElem?_drop,show k+(j-k)=j by omega];simp[GO]);have h0:=hr ls[j] (List.getElem_mem GO);have:ln ls j=ls[j]:=by simp[ln,List.getD_eq_getElem?_getD,GO]
     congr 1;omega
    ·rw[if_neg h2]
 ·rw[List.getElem?_eq_none (by rw[List.length_set,kl hl hk];omega),List.getElem?_eq_none (by rw[kl hl (by omega)];omega)]
theorem CZ{ls:List Int}{k:Nat}(hl:ls.length=256)(hr:∀ v∈ls,0<=v)(hk:k<=256)(hz:∀ x∈ls.drop k,¬ 0<x):qI ls k=ls:=by
 apply List.ext_getElem?;intro j;by_cases hj:j<256
 ·rw[tH hl hk hj];have GO:j<ls.length:=by omega
  have e:ln ls j=ls[j]:=by simp[ln,List.getD_eq_getElem?_getD,GO]
  rw[List.getElem?_eq_getElem GO,← e];by_cases h:j<k
  ·rw[if_pos h]
  ·rw[if_neg h];have h0:=hr ls[j] (List.getElem_mem GO);have hm:ls[j]∈ls.drop k:=by
    rw[List.mem_iff_getElem?];exact⟨j-k,by rw[List.getElem?_drop,show k+(j-k)=j by omega];simp[GO]⟩
   have:=hz _ hm;congr 1;omega
 ·rw[List.getElem?_eq_none (by rw[kl hl hk];omega),List.getElem?_eq_none (by omega)]
theorem jZ{u v:Nat}{s t:List Int}(hu:u<2^64)(hv:v<2^64)(h:cF u++s=cF v++t):u=v/\s=t:=by
 have h1:=fL (most:=2^64) (n:=u) (by omega) hu s;have h2:=fL (most:=2^64) (n:=v) (by omega) hv t;rw[h]at h1;rw[h1]at h2;have:u=v:=by have:=congrArg Prod.fst h2;simp at this;omega
 subst this;exact⟨rfl,List.append_cancel_left h⟩
end Go.Proofs.YtlieaecnllkefaaGreat
/-! Bytes in fewer ones: no text begins as another. -/
namespace Go.Proofs.YtlieaecnllkefaaGreat
open Go Go.V Go.RowKit
theorem yQ:∀(n:Nat)(l l':List Int)(k:Nat)(a b:List Int),cZ l=n->cZ l'=n->l.length=l'.length->k+l.length<=256->(∀ v∈l,0<=v/\v<=15)->(∀ v∈l',0<=v/\v<=15)->dC l k k++a=dC l' k k++b->l=l'/\a=b
 | 0,l,l',k,a,b,h,h',hl,hk,hr,Ln,he=>by
  obtain⟨e1,z1⟩:=p9 l k k h;obtain⟨e2,z2⟩:=p9 l' k k h';rw[e1,e2]at he;refine⟨?_,by simpa using he⟩;have z:∀(q:List Int),(∀ v∈q,0<=v/\v<=15)->(∀ v∈q,¬ 0<v)->q=List.replicate q.length 0:=fun q h1 h2=>by
   rw[List.eq_replicate_iff];exact⟨rfl,fun v hv=>by have:=h1 v hv;have:=h2 v hv;omega⟩
  rw[z l hr z1,z l' Ln z2,hl]
 | n+1,l,l',k,a,b,h,h',hl,hk,hr,Ln,he=>by
  obtain⟨i,x,h1,h2,h3,h4,h5⟩:=nR l k k (Nat.le_refl _) (by omega);obtain⟨i',x',Ir,Kt,TJ,Pp,X5⟩:=nR l' k k (Nat.le_refl _) (by omega);have hi:=(List.getElem?_eq_some_iff.1 h1).1;have J0:=(List.getElem?_eq_some_iff.1 Ir).1;have hx:=hr x (List.mem_of_getElem? h1);have GN:=Ln x' (List.mem_of_getElem? Ir);rw[h4,Pp,List.append_assoc,List.append_assoc,List.append_assoc,List.append_assoc]at he;obtain⟨e1,SW⟩:=jZ (by omega) (by omega) he;obtain⟨e2,VC⟩:=jZ (by omega) (by omega) SW;clear he SW;have ei:i=i':=by omega
  have ex:x=x':=by omega
  subst ei ex;obtain⟨ed,ea⟩:=yQ n (l.drop (i+1)) (l'.drop (i+1)) (k+i+1) a b (by omega) (by omega) (by simp[hl]) (by simp;omega) (fun v hv=>hr v (List.mem_of_mem_drop hv)) (fun v hv=>Ln v (List.mem_of_mem_drop hv)) VC;refine⟨?_,ea⟩;apply List.ext_getElem?;intro j;by_cases hj:j<i
  ·have jl:j<l.length:=by omega
   have jl':j<l'.length:=by omega
   have a1:=h3 j l[j] hj (by simp[jl]);have a2:=TJ j l'[j] hj (by simp[jl']);have b1:=hr _ (List.getElem_mem jl);have b2:=Ln _ (List.getElem_mem jl');rw[List.getElem?_eq_getElem jl,List.getElem?_eq_getElem jl'];congr 1;omega
  ·by_cases e:j=i
   ·subst e;rw[h1,Ir]
   ·have:=congrArg (fun q=>q[j-(i+1)]?) ed;simp only[List.getElem?_drop]at this
    rwa [show i+1+(j-(i+1))=j by omega]at this
theorem wI(a b:List Int)(i:Nat):fb (a++b) i=if i<8*a.length then fb a i else fb b (i-8*a.length):=by
 unfold fb;by_cases h:i<8*a.length
 ·rw[if_pos h,List.getD_eq_getElem?_getD,List.getD_eq_getElem?_getD,List.getElem?_append_left (by omega)]
 ·rw[if_neg h,List.getD_eq_getElem?_getD,List.getD_eq_getElem?_getD,List.getElem?_append_right (by omega)];rw[show(i-8*a.length) / 8=i / 8-a.length by omega,show(i-8*a.length) % 8=i % 8 by omega]
theorem rv(a b:List Int):aX (a++b)=aX a++aX b:=by
 apply List.ext_getElem?;intro j;unfold aX;simp only[List.getElem?_append,List.getElem?_map,List.length_map,List.length_range,List.length_append];by_cases h:j<8*a.length
 ·rw[if_pos h,List.getElem?_range (by omega),List.getElem?_range (by omega)];simp[wI,h]
 ·rw[if_neg h];by_cases h2:j<8*(a.length+b.length)
  ·rw[List.getElem?_range h2,List.getElem?_range (by omega)];simp[wI,h]
  ·rw[List.getElem?_eq_none (by simp;omega),List.getElem?_eq_none (by simp;omega)];rfl
theorem BL{ls:List Int}(hR:cz ls=true):∀(o b:List Nat)(s t:List Bool),o.length=b.length->(∀ x∈o,x<ls.length/\0<ln ls x)->(∀ x∈b,x<ls.length/\0<ln ls x)->fY ls o++s=fY ls b++t->o=b
 | [],b,s,t,hl,_,_,_=>by cases b with
  | nil=>rfl
  | cons=>simp at hl
 | x ::o,[],s,t,hl,_,_,_=>by simp at hl
 | x ::o,y ::b,s,t,hl,ho,hb,he=>by
  rw[jQ,jQ,List.append_assoc,List.append_assoc]at he;have h1:=nM hR (ho x (by simp)) (fY ls o++s);have h2:=nM hR (hb y (by simp)) (fY ls b++t);rw[he,h2]at h1;have e:y=x:=by simpa using congrArg (fun q=>q.map Prod.fst) h1
  subst e;have:=BL hR o b s t (by simpa using hl) (fun z hz=>ho z (by simp[hz])) (fun z hz=>hb z (by simp[hz])) (List.append_cancel_left he);rw[this]
theorem En{o b:List Int}(ho:aW o)(hb:aW b)(h:fe o=fe b):o=b:=by
 have e:∀ q:List Int,aW q->(fe q).map (fun n:Nat=>(n:Int))=q:=by
  intro q hq;rw[List.map_map]
  conv=>rhs;rw[← List.map_id q]
  apply List.map_congr_left;intro x hx;have:=hq x hx;simp;omega
 rw[← e o ho,← e b hb,h]
theorem uf{o b s t:List Int}(ho:aW o)(hb:aW b)(Hh:o.length<2^64)(Ip:b.length<2^64)(h:de o++s=de b++t):o=b:=by
 have FT:o.length=b.length:=by
  unfold de at h;have e:∀ q:List Int,∃ r,(if q=[] then cF 0 else cF q.length++(cF (cZ (lF q))++(dC (lF q) 0 0++dN (fY (lF q) (fe q)))))=cF q.length++r:=by
   intro q;by_cases hq:q=[]
   ·exact⟨[],by simp[hq]⟩
   ·exact⟨_,if_neg hq⟩
  obtain⟨r1,e1⟩:=e o;obtain⟨r2,e2⟩:=e b;rw[e1,e2,List.append_assoc,List.append_assoc]at h;exact(jZ Hh Ip h).1
 by_cases PL:o=[]
 ·subst PL;simp at FT;exact(List.eq_nil_of_length_eq_zero FT.symm).symm
 ·have Nb:b≠[]:=fun e=>by subst e;simp at FT;exact PL FT
  unfold de at h;rw[if_neg PL,if_neg Nb]at h;simp only[List.append_assoc]at h;obtain⟨_,h⟩:=jZ Hh Ip h;obtain⟨l1,r1,s1,v1⟩:=fu ho PL;obtain⟨l2,r2,s2,v2⟩:=fu hb Nb;have p1:=kr (lF o);have p2:=kr (lF b);obtain⟨hp,h⟩:=jZ (by omega) (by omega) h;obtain⟨hl,h⟩:=yQ _ _ _ 0 _ _ rfl hp.symm (by omega) (by omega) v1 v2 h;rw[hl]at h s1;have h2:=congrArg aX h;rw[rv,rv,gM,gM,List.append_assoc,List.append_assoc]at h2;exact En ho hb (BL r2 _ _ _ _ (by simpa using FT) s1 s2 h2)
theorem yu{o b:List Int}(ho:aW o)(hb:aW b)(Hh:o.length<2^64)(Ip:b.length<2^64)(h:de o=de b):o=b :=
 uf (s:=[]) (t:=[]) ho hb Hh Ip (by rw[h])
end Go.Proofs.YtlieaecnllkefaaGreat
/-! huff.Put: the walk. -/
namespace Go.Proofs.YtlieaecnllkefaaGreat
open Go Go.V Go.RowKit
theorem jn{w:World}{b b' s s' n c n' c':Nat}{e e':TypeId}{A A':OA}{xs xs':List Value}(h:aE w b e s A n c xs)(h':aE w b' e' s' A' n' c' xs')(ne:e≠e'):(Value.slice A n c).ownBlock=none∨(Value.slice A n c).ownBlock≠(Value.slice A' n' c').ownBlock:=by
 cases hk:(Value.slice A n c).ownBlock with
 | none=>exact .inl rfl
 | some k =>
  refine .inr fun hq=>?_;obtain⟨c1,h1⟩:=h.block_type k hk;obtain⟨c2,h2⟩:=h'.block_type k hq.symm;rw[h1]at h2;cases h2;exact ne rfl
theorem cY{w:World}{b s n c:Nat}{e:TypeId}{A:OA}{xs:List Value}(h:aE w b e s A n c xs):A=none->c=0:=by
 obtain⟨_,⟨_,_,e,_⟩ | ⟨g,cur,e,_⟩⟩:=h.cases
 ·exact fun _=>e
 ·intro q;rw[q]at e;cases e
theorem v9(x:Int)(l:List Int):cZ (x ::l)=(if 0<x then 1 else 0)+cZ l:=by
 unfold cZ;rw[List.filter_cons];by_cases h:0<x
 ·simp[h];omega
 ·simp[h]
theorem vZ(a b:Nat):bC [a,b]=cF a++cF b:=by simp[bC]
theorem i4(a:Nat):bC [a]=cF a:=by simp[bC]
theorem cX{w:World}{b n c:Nat}{A:OA}{xs:List Int}(h:aE w b 5 1 A n c (bY xs)):n=xs.length:=by
 have:=h.cases.1;rw[List.length_map]at this;omega
theorem po{w:World}{A:OA}{n c:Nat}{b:List Int}(hr:aZ w A (bY b))(hn:n=b.length)(hb:aW b)(hl:n<=2^20):
    Calls P 69 #[.slice A n c] w fun ev w'=>∃(A':OA)(n' c':Nat),ev=.returned (.slice A' n' c')/\aE w' w.heap.size 5 1 A' n' c' (bY (de b))/\w.grownBy w' none:=by
  apply vc69;dsimp only[VC69,Br,Rd,Ix,Ap,cB,cS,nb,iq]
  try simp only[aG]
  refine⟨by omega,?_⟩;have gal:=World.grownBy_alloc w (.cells #[.int .u64 (n:Int)] 22) none;have IP:aZ (w.alloc (.cells #[.int .u64 (n:Int)] 22)) (some ⟨w.heap.size,0,none⟩) (pN [n]):=dg w _ 22;refine(iW (l:=[n]) IP rfl (by simp;omega) (by simp)).mono fun ev w1 hh=>?_;obtain⟨A1,n1,c1,rfl,o1,g1⟩:=hh;replace o1:=o1.mono (base':=w.heap.size) gal.size;have Hg:=aA gal g1;rw[i4]at o1;refine⟨A1,n1,c1,rfl,fun h0=>?_,fun h0=>?_⟩
  · have e:b=[]:=by apply List.eq_nil_of_length_eq_zero;omega
    subst e;have e0:n=0:=by omega
    subst e0;exact⟨_,_,_,rfl,by simpa[de]using o1,Hg⟩
  have FS:b≠[]:=fun e=>by subst e;simp at hn;omega
  obtain⟨IW,hR,GQ,HF⟩:=fu hb FS;have Jl:de b=cF n++(cF (cZ (lF b))++(dC (lF b) 0 0++dN (fY (lF b) (fe b)))):=by rw[de,if_neg FS,hn]
  have r1:=hr.kept_none Hg;refine(vC r1 hn hb (by omega)).mono fun ev w2 hh=>?_;obtain⟨A2,n2,c2,rfl,o2,g2⟩:=hh;refine⟨_,_,_,rfl,?_⟩;have IT:n2=(pF b).length:=by rw[o2.cases.1];simp[aT]
  refine(vy (most:=15) o2.row IT).mono fun ev w3 hh=>?_;obtain⟨A3,n3,c3,rfl,o3,g3⟩:=hh;replace o3:cP w3 w2.heap.size 3 A3 n3 c3 (aT (lF b)):=o3;generalize lF b=ls at *;have IS:n3=256:=by rw[o3.cases.1];simp[aT,IW]
  have Sy:=kr ls;have II:=cR (v:=n) (by omega);have Gu:=aA g2 g3;have F9:=aA Hg Gu;refine⟨_,_,_,rfl,?_⟩;refine⟨fun m nn nx Ah nh ch i w4=>∃(j k:Nat)(hd:List Int),i=(j:Int)/\nx=(k:Int)/\k<=j/\j<=256/\m=256-j/\nn+(cZ (ls.drop j):Int)=(cZ ls:Int)/\hd++dC (ls.drop j) j k=dC ls 0 0/\aE w4 w3.heap.size 5 1 Ah nh ch (bY hd)/\hd.length<=20*j/\0<=nn/\w3.grownBy w4 none,
    ⟨_,0,0,[],rfl,rfl,by omega,by omega,rfl,by simp,by simp,aE.nil _ _ _ _,by simp,by omega,aC _ _⟩,?_⟩
  rintro m nn nx Ah nh ch i w4 ⟨j,k,hd,rfl,rfl,Vc,hj,rfl,Iy,Hp,oh,Vp,JW,F8⟩;have tj:(j:Int).toNat=j:=by omega
  rw[tj];have UT:=cX oh;refine⟨fun FP=>?_,fun FU=>?_⟩
  · have lj:j<ls.length:=by omega
    have Gn:=List.drop_eq_getElem_cons lj;have NO:=HF _ (List.getElem_mem lj);obtain⟨p,hp⟩:∃ p:Nat,ls[j]=(p:Int):=⟨ls[j].toNat,by omega⟩;obtain⟨a,Ge,Gb⟩:=(o3.row.kept_none F8) j (.int .i64 ls[j]) (by simp[aT,lj]);rw[hp]at Gb Gn NO;rw[Gn,dC]at Hp;rw[Gn,v9]at Iy;refine⟨a,Ge,by omega,by omega,_,Gb,fun FX=>?_,fun hz=>?_⟩
    · rw[if_pos (by omega)]at Hp Iy;have ep:(p:Int).toNat=p:=by omega
      rw[ep]at Hp;refine⟨by omega,by omega,by omega,?_⟩;rw[show((j:Int)-(k:Int))=((j-k:Nat):Int) by omega];have ga:=World.grownBy_alloc w4 (.cells #[.int .u64 ((j-k:Nat):Int),.int .u64 (p:Int)] 22) none;have IP:aZ (w4.alloc (.cells #[.int .u64 ((j-k:Nat):Int),.int .u64 (p:Int)] 22)) (some ⟨w4.heap.size,0,none⟩) (pN [j-k,p]):=dg w4 _ 22;refine(iW (l:=[j-k,p]) IP rfl (by simp;omega) (by simp)).mono fun ev w5 hh=>?_;obtain⟨A5,n5,c5,rfl,o5,g5⟩:=hh;have Jh:=aA ga g5;rw[vZ]at o5;have HP:=cX o5;have l1:=cR (v:=j-k) (by omega);have l2:=cR (v:=p) (by omega);have l5:(cF (j-k)++cF p).length<=20:=by rw[List.length_append];omega
      obtain⟨A6,n6,c6,w6,e1,e2,e3,e4⟩:=aO (oh.kept Jh) o5.row HP (cY o5) (by omega) (Nat.le_trans F8.size Jh.size);refine⟨_,_,_,rfl,_,_,_,w6,e1,by omega,by omega,by omega,256-(j+1),by omega,j+1,j+1,hd++(cF (j-k)++cF p),by omega,by omega,by omega,by omega,rfl,by omega,?_,e2,?_,by omega,aN (aA F8 Jh) e3 oh.block_ge⟩
      · rw[← Hp];simp
      · rw[List.length_append];omega
    · rw[if_neg (by omega)]at Hp Iy;exact⟨by omega,256-(j+1),by omega,j+1,k,hd,by omega,rfl,by omega,by omega,rfl,by omega,Hp,oh,by omega,JW,F8⟩
  have e256:j=256:=by omega
  subst e256;rw[List.drop_eq_nil_of_le (by omega)]at Hp Iy;simp only[dC,List.append_nil]at Hp;subst Hp;have L1:nn=(cZ ls:Int):=by simp[cZ]at Iy ⊢;omega
  subst L1;refine⟨by omega,?_⟩;have ga:=World.grownBy_alloc w4 (.cells #[.int .u64 (cZ ls:Int)] 22) none;have IP:aZ (w4.alloc (.cells #[.int .u64 (cZ ls:Int)] 22)) (some ⟨w4.heap.size,0,none⟩) (pN [cZ ls]):=dg w4 _ 22;refine(iW (l:=[cZ ls]) IP rfl (by simp;omega) (by simp)).mono fun ev w7 hh=>?_;obtain⟨A7,n7,c7,rfl,o7,g7⟩:=hh;have Ki:=aA ga g7;have Ps:=aA F8 Ki;have Ic:=aA Gu Ps;rw[i4]at o7;have Jp:=cX o7;have Ii:=cX o1;have l7:=cR (v:=cZ ls) (by omega);have o1':=o1.kept Ic;have oh7:=oh.kept Ki;have Ns:=aE.kept (size:=1) o3 Ps;obtain⟨A8,n8,c8,w8,e1,e2,e3,e4⟩:=aO o1' o7.row Jp (cY o7) (by omega) (Nat.le_trans Hg.size Ic.size);refine⟨_,_,_,rfl,_,_,_,w8,e1,?_⟩;have oh8:=oh7.apart e3 (by
    cases hk:(Value.slice Ah nh ch).ownBlock with
    | none=>exact .inl rfl
    | some k =>
      refine .inr fun hq=>?_;have a1:=oh.block_ge k hk;have a2:=o1.block_lt k hq.symm;have a3:=Gu.size;omega)
  have Nr:=Ns.apart e3 (jn Ns o1' (by decide));have K8:Kp w w8 (fun k=>w.heap.size<=k):=(Kp.of_none (aA Hg Ic)).step e3 (fun k hk=>.inr (o1.block_ge k hk));obtain⟨A9,n9,c9,w9,f1,f2,f3,f4⟩:=aO e2 oh8.row (cX oh8) (cY oh8) (by omega) K8.size;refine⟨_,_,_,w9,f1,?_⟩;have Nq:=Nr.apart f3 (jn Nr e2 (by decide));have K9:Kp w w9 (fun k=>w.heap.size<=k):=K8.step f3 (fun k hk=>.inr (e2.block_ge k hk));refine(wn (ls:=ls) Nq.row (by omega) (by omega)).mono fun ev Gd hh=>?_;obtain⟨HB,⟨hf,rfl⟩ | ⟨_,gt,rfl,hT⟩⟩:=hh
  · rw[hR]at hf;cases hf
  refine⟨_,_,rfl,?_⟩;refine(mH (base:=Gd.heap.size) (Nat.le_refl _)).mono fun ev GC hh=>?_;obtain⟨rfl,hW,JG⟩:=hh;refine⟨_,rfl,?_⟩;have K10:Kp w Gd (fun k=>w.heap.size<=k):=K9.step HB (fun k hk=>by cases hk);have r10:aZ Gd A (bY b):=hr.kp K10 (fun a ha hk e=>by omega);have hA:∀ a,A=some a->a.block<w.heap.size:=fun a ha=>by
    obtain⟨q,q1,q2⟩:=hr.blk (by simpa using FS);rw[ha]at q1;cases q1;exact q2
  have keepT:∀ w',Kp Gd w' (fun k=>Gd.heap.size<=k)->qu w' Gd.heap.size gt ls:=fun w' h=>hT.kp h (fun k hk e=>by omega);refine⟨fun m i HM=>∃ j:Nat,i=(j:Int)/\j<=b.length/\m=b.length-j/\Wr HM Gd.heap.size Gd.heap.size (fY ls ((fe b).take j))/\Kp Gd HM (fun k=>Gd.heap.size<=k),
    ⟨_,0,rfl,by omega,rfl,by simpa[fY]using hW,Kp.of_none JG⟩,?_⟩
  rintro m i HM ⟨j,rfl,hj,rfl,I3,K12⟩;have tj:(j:Int).toNat=j:=by omega
  rw[tj];have OS:=nk hR ((fe b).take j);have Qq:=mP hR ((fe b).take j);have Jj:((fe b).take j).length=j:=by simp;omega
  refine⟨fun FP=>?_,fun FU=>?_⟩
  · have lj:j<b.length:=by omega
    obtain⟨a,Ge,Gb⟩:=(r10.kp K12 (fun a ha _ e=>by have:=hA a ha;have:=K10.size;omega)) j (.int .u8 b[j]) (by simp[lj]);have PT:=hb _ (List.getElem_mem lj);refine⟨a,Ge,by omega,by omega,_,Gb,by omega,?_⟩;refine(wV (s:=b[j]) (keepT HM K12) hR I3 (by omega) K12.size).mono fun ev HC hh=>?_;obtain⟨rfl,Mx,k13⟩:=hh;refine⟨_,rfl,by omega,b.length-(j+1),by omega,j+1,by omega,by omega,rfl,?_,K12.then k13 (fun k _ e=>e.1)⟩;have hs:=GQ b[j].toNat (by simp only[fe];exact List.mem_map_of_mem (List.getElem_mem lj));have hv:iv ls b[j]=true:=by simp[iv];omega
    rw[List.take_succ_eq_append_getElem (by simpa using lj),sw];have:fY ls [(fe b)[j]'(by simpa using lj)]=kB ls b[j]:=by
      rw[kB,if_pos hv];simp[fY]
    rw[this];exact Mx
  · have e:j=b.length:=by omega
    subst e;rw[List.take_of_length_le (by simp)]at I3 OS Qq;have PE:(fe b).length=b.length:=by simp
    refine(sD I3 (by omega)).mono fun ev LL hh=>?_;obtain⟨WT,TS,c14,rfl,Kv,Hz⟩:=hh;refine⟨_,_,_,rfl,?_⟩;have f2':=aE.kp (f2.kept HB) (K12.step Hz (fun k hk=>by cases hk)) (fun k hk e=>by have:=f2.block_lt k hk;have:=HB.size;omega);have L3:=cX Kv;rw[bM]at L3;have M0:=cX f2;have IJ:=cX e2;obtain⟨WS,TR,c15,P7,h1,h2,h3,h4⟩:=aO f2' Kv.row (cX Kv) (cY Kv) (by omega) (Nat.le_trans K10.size (Nat.le_trans K12.size Hz.size));refine⟨_,_,_,P7,h1,_,_,_,rfl,?_,?_⟩
    · rw[Jl];simpa using h2
    · have K12':Kp w HM (fun k=>w.heap.size<=k):=K10.then K12 (fun k hk e=>by have:=K10.size;omega);exact((K12'.step Hz (fun k hk=>by cases hk)).step h3 (fun k hk=>.inr (f2.block_ge k hk))).grown (fun k hk e=>by omega)
end Go.Proofs.YtlieaecnllkefaaGreat
/-! archipelagoref5.Put: the walk. -/
namespace Go.Proofs.YtlieaecnllkefaaGreat
open Go Go.V Go.RowKit
theorem rH{w:World}{A:OA}{n c:Nat}{b:List Int}(hr:aZ w A (bY b))(hn:n=b.length)(hb:aW b)(hl:n<=2^20):
    Calls P 79 #[.slice A n c] w fun ev w'=>∃(A':OA)(n' c':Nat),ev=.returned (.slice A' n' c')/\aE w' w.heap.size 5 1 A' n' c' (bY (de b))/\w.grownBy w' none:=by
  apply vc79;dsimp only[VC79,Br,Rd,Ix,Ap,cS,cU,nb,iq]
  try simp only[aG]
  refine⟨by omega,?_⟩;have gal:=World.grownBy_alloc w (.cells #[.int .u64 (n:Int)] 22) none;have IP:aZ (w.alloc (.cells #[.int .u64 (n:Int)] 22)) (some ⟨w.heap.size,0,none⟩) (pN [n]):=dg w _ 22;refine(kq (l:=[n]) IP rfl (by simp;omega) (by simp)).mono fun ev w1 hh=>?_;obtain⟨A1,n1,c1,rfl,o1,g1⟩:=hh;replace o1:=o1.mono (base':=w.heap.size) gal.size;have Hg:=aA gal g1;rw[i4]at o1;refine⟨A1,n1,c1,rfl,fun h0=>?_,fun h0=>?_⟩
  · have e:b=[]:=by apply List.eq_nil_of_length_eq_zero;omega
    subst e;have e0:n=0:=by omega
    subst e0;exact⟨_,_,_,rfl,by simpa[de]using o1,Hg⟩
  have FS:b≠[]:=fun e=>by subst e;simp at hn;omega
  obtain⟨IW,hR,GQ,HF⟩:=fu hb FS;have Jl:de b=cF n++(cF (cZ (lF b))++(dC (lF b) 0 0++dN (fY (lF b) (fe b)))):=by rw[de,if_neg FS,hn]
  have r1:=hr.kept_none Hg;refine(tY r1 hn hb (by omega)).mono fun ev w2 hh=>?_;obtain⟨A2,n2,c2,rfl,o2,g2⟩:=hh;refine⟨_,_,_,rfl,?_⟩;have IT:n2=(pF b).length:=by rw[o2.cases.1];simp[aT]
  refine(qN (most:=15) o2.row IT).mono fun ev w3 hh=>?_;obtain⟨A3,n3,c3,rfl,o3,g3⟩:=hh;replace o3:cP w3 w2.heap.size 3 A3 n3 c3 (aT (lF b)):=o3;generalize lF b=ls at *;have IS:n3=256:=by rw[o3.cases.1];simp[aT,IW]
  have Sy:=kr ls;have II:=cR (v:=n) (by omega);have Gu:=aA g2 g3;have F9:=aA Hg Gu;refine⟨_,_,_,rfl,?_⟩;refine⟨fun m nn nx Ah nh ch i w4=>∃(j k:Nat)(hd:List Int),i=(j:Int)/\nx=(k:Int)-1/\k<=j/\j<=256/\m=256-j/\nn+(cZ (ls.drop j):Int)=(cZ ls:Int)/\hd++dC (ls.drop j) j k=dC ls 0 0/\aE w4 w3.heap.size 5 1 Ah nh ch (bY hd)/\hd.length<=20*j/\0<=nn/\w3.grownBy w4 none,
    ⟨_,0,0,[],rfl,by omega,by omega,by omega,rfl,by simp,by simp,aE.nil _ _ _ _,by simp,by omega,aC _ _⟩,?_⟩
  rintro m nn nx Ah nh ch i w4 ⟨j,k,hd,rfl,rfl,Vc,hj,rfl,Iy,Hp,oh,Vp,JW,F8⟩;have tj:(j:Int).toNat=j:=by omega
  rw[tj];have UT:=cX oh;refine⟨fun FP=>?_,fun FU=>?_⟩
  · have lj:j<ls.length:=by omega
    have Gn:=List.drop_eq_getElem_cons lj;have NO:=HF _ (List.getElem_mem lj);obtain⟨p,hp⟩:∃ p:Nat,ls[j]=(p:Int):=⟨ls[j].toNat,by omega⟩;obtain⟨a,Ge,Gb⟩:=(o3.row.kept_none F8) j (.int .i64 ls[j]) (by simp[aT,lj]);rw[hp]at Gb Gn NO;rw[Gn,dC]at Hp;rw[Gn,v9]at Iy;refine⟨a,Ge,by omega,by omega,_,Gb,fun FX=>?_,fun hz=>?_⟩
    · rw[if_pos (by omega)]at Hp Iy;have ep:(p:Int).toNat=p:=by omega
      rw[ep]at Hp;refine⟨by omega,by omega,by omega,a,Ge,by omega,by omega,_,Gb,by omega,?_⟩;rw[show((j:Int)-((k:Int)-1)-1)=((j-k:Nat):Int) by omega];have ga:=World.grownBy_alloc w4 (.cells #[.int .u64 ((j-k:Nat):Int),.int .u64 (p:Int)] 22) none;have IP:aZ (w4.alloc (.cells #[.int .u64 ((j-k:Nat):Int),.int .u64 (p:Int)] 22)) (some ⟨w4.heap.size,0,none⟩) (pN [j-k,p]):=dg w4 _ 22;refine(kq (l:=[j-k,p]) IP rfl (by simp;omega) (by simp)).mono fun ev w5 hh=>?_;obtain⟨A5,n5,c5,rfl,o5,g5⟩:=hh;have Jh:=aA ga g5;rw[vZ]at o5;have HP:=cX o5;have l1:=cR (v:=j-k) (by omega);have l2:=cR (v:=p) (by omega);have l5:(cF (j-k)++cF p).length<=20:=by rw[List.length_append];omega
      obtain⟨A6,n6,c6,w6,e1,e2,e3,e4⟩:=aO (oh.kept Jh) o5.row HP (cY o5) (by omega) (Nat.le_trans F8.size Jh.size);refine⟨_,_,_,rfl,_,_,_,w6,e1,by omega,by omega,256-(j+1),by omega,j+1,j+1,hd++(cF (j-k)++cF p),by omega,by omega,by omega,by omega,rfl,by omega,?_,e2,?_,by omega,aN (aA F8 Jh) e3 oh.block_ge⟩
      · rw[← Hp];simp
      · rw[List.length_append];omega
    · rw[if_neg (by omega)]at Hp Iy;exact⟨by omega,256-(j+1),by omega,j+1,k,hd,by omega,rfl,by omega,by omega,rfl,by omega,Hp,oh,by omega,JW,F8⟩
  have e256:j=256:=by omega
  subst e256;rw[List.drop_eq_nil_of_le (by omega)]at Hp Iy;simp only[dC,List.append_nil]at Hp;subst Hp;have L1:nn=(cZ ls:Int):=by simp[cZ]at Iy ⊢;omega
  subst L1;refine⟨by omega,?_⟩;have ga:=World.grownBy_alloc w4 (.cells #[.int .u64 (cZ ls:Int)] 22) none;have IP:aZ (w4.alloc (.cells #[.int .u64 (cZ ls:Int)] 22)) (some ⟨w4.heap.size,0,none⟩) (pN [cZ ls]):=dg w4 _ 22;refine(kq (l:=[cZ ls]) IP rfl (by simp;omega) (by simp)).mono fun ev w7 hh=>?_;obtain⟨A7,n7,c7,rfl,o7,g7⟩:=hh;have Ki:=aA ga g7;have Ps:=aA F8 Ki;have Ic:=aA Gu Ps;rw[i4]at o7;have Jp:=cX o7;have Ii:=cX o1;have l7:=cR (v:=cZ ls) (by omega);have o1':=o1.kept Ic;have oh7:=oh.kept Ki;have Ns:=aE.kept (size:=1) o3 Ps;obtain⟨A8,n8,c8,w8,e1,e2,e3,e4⟩:=aO o1' o7.row Jp (cY o7) (by omega) (Nat.le_trans Hg.size Ic.size);refine⟨_,_,_,rfl,_,_,_,w8,e1,?_⟩;have oh8:=oh7.apart e3 (by
    cases hk:(Value.slice Ah nh ch).ownBlock with
    | none=>exact .inl rfl
    | some k =>
      refine .inr fun hq=>?_;have a1:=oh.block_ge k hk;have a2:=o1.block_lt k hq.symm;have a3:=Gu.size;omega)
  have Nr:=Ns.apart e3 (jn Ns o1' (by decide));have K8:Kp w w8 (fun k=>w.heap.size<=k):=(Kp.of_none (aA Hg Ic)).step e3 (fun k hk=>.inr (o1.block_ge k hk));obtain⟨A9,n9,c9,w9,f1,f2,f3,f4⟩:=aO e2 oh8.row (cX oh8) (cY oh8) (by omega) K8.size;refine⟨_,_,_,w9,f1,?_⟩;have Nq:=Nr.apart f3 (jn Nr e2 (by decide));have K9:Kp w w9 (fun k=>w.heap.size<=k):=K8.step f3 (fun k hk=>.inr (e2.block_ge k hk));have gw:=World.grownBy_alloc w9 (.cells #[.slice none 0 0] 178) none;obtain⟨w9',LP⟩:∃ w9',w9'=w9.alloc (.cells #[.slice none 0 0] 178):=⟨_,rfl⟩;have Wg:zC w9' w9.heap.size w9.heap.size []:=by rw[LP];exact⟨none,0,0,heap_alloc_new w9 _,Nat.le_refl _,aE.nil _ _ _ _⟩
  rw[← LP]at gw ⊢;refine(uc (ls:=ls) (Nq.row.kept_none gw) (by omega) (by omega)).mono fun ev Gd hh=>?_;obtain⟨LK,Lf,c10,rfl,JI,HB⟩:=hh;have Kg:=aA gw HB;refine⟨_,_,_,rfl,?_⟩;have Ik:=fv hR;have Om:Lf=256:=by rw[JI.cases.1];simp[aT,Ik,IW]
  have K10:Kp w Gd (fun k=>w.heap.size<=k):=K9.step Kg (fun k hk=>by cases hk);have r10:aZ Gd A (bY b):=hr.kp K10 (fun a ha hk e=>by omega);have hA:∀ a,A=some a->a.block<w.heap.size:=fun a ha=>by
    obtain⟨q,q1,q2⟩:=hr.blk (by simpa using FS);rw[ha]at q1;cases q1;exact q2
  have l10:aZ Gd A3 (aT ls):=Nq.row.kept_none Kg;have d10:aZ Gd LK (aT (fw ls)):=JI.row
  -- what is written is of the writer's two types, none of which are the rows'
  have tyA:∀(b':Nat)(B:OA)(m d:Nat)(xs:List Int),cP Gd b' 3 B m d (aT xs)->∀ w',Kp Gd w' (vl Gd w9.heap.size [178,4])->cP w' b' 3 B m d (aT xs):=by
    intro b' B m d xs h w' hk;refine aE.kp (size:=1) h hk fun k hk e=>?_;obtain⟨t,ht,ND⟩:=e.2;obtain⟨cur,Gc⟩:=aE.block_type (size:=1) h k hk;have:t=3:=ND.ne ⟨_,_,Gc⟩;subst this;simp at ht
  refine⟨fun m i HM=>∃ j:Nat,i=(j:Int)/\j<=b.length/\m=b.length-j/\zC HM w9.heap.size w9.heap.size (fY ls ((fe b).take j))/\aZ HM A3 (aT ls)/\aZ HM LK (aT (fw ls))/\aE HM w.heap.size 5 1 A9 n9 c9 (bY (cF n++cF (cZ ls)++dC ls 0 0))/\Kp w HM (fun k=>w.heap.size<=k)/\w9.heap.size<=HM.heap.size/\cP HM w2.heap.size 3 A3 n3 c3 (aT ls)/\(∃ b',cP HM b' 3 LK Lf c10 (aT (fw ls))),
    ⟨_,0,rfl,by omega,rfl,by simpa[fY]using Wg.kept HB,l10,d10,f2.kept Kg,K10,Kg.size,aE.kept (size:=1) Nq Kg,_,JI⟩,?_⟩
  rintro m i HM ⟨j,rfl,hj,rfl,I3,QU,Rj,KO,K12,sz12,ol12,bd,od12⟩;have tj:(j:Int).toNat=j:=by omega
  rw[tj];have OS:=nk hR ((fe b).take j);have Qq:=mP hR ((fe b).take j);have Jj:((fe b).take j).length=j:=by simp;omega
  refine⟨fun FP=>?_,fun FU=>?_⟩
  · have lj:j<b.length:=by omega
    have gd:=aI (aC HM none);obtain⟨a,Ge,Gb⟩:=((hr.kp K12 (fun a ha hk e=>by omega)).kept_none gd) j (.int .u8 b[j]) (by simp[lj]);have PT:=hb _ (List.getElem_mem lj);have hs:=GQ b[j].toNat (by simp only[fe];exact List.mem_map_of_mem (List.getElem_mem lj));obtain⟨a2,Hy,Gf⟩:=(Rj.kept_none gd) b[j].toNat (.int .i64 (cd ls b[j].toNat)) (pZ (by omega));obtain⟨a3,Ka,Rp⟩:=(QU.kept_none gd) b[j].toNat (.int .i64 (ln ls b[j].toNat)) (pZ (by omega));have GM:=lC hR b[j].toNat;have Rn:=zj hR hs;have NO:=(er hR).2.1 b[j].toNat;obtain⟨q,hq⟩:∃ q:Nat,ln ls b[j].toNat=(q:Int):=⟨(ln ls b[j].toNat).toNat,by omega⟩;have tq:(ln ls b[j].toNat).toNat=q:=by omega
    rw[tq]at Rn;have QA:=Nat.pow_le_pow_right (n:=2) (by omega) (show q<=15 by omega);have Xd:((2^q:Nat):Int)=2^q:=by simp
    rw[hq]at Rp;refine⟨a,Ge,by omega,by omega,_,Gb,a2,Hy,by omega,by omega,_,Gf,by omega,a,Ge,by omega,by omega,_,Gb,a3,Ka,by omega,by omega,_,Rp,?_⟩;refine(lO (v:=cd ls b[j].toNat) (n:=q) (I3.kept gd) (by omega) (by omega) (by omega) (Nat.le_trans sz12 gd.size)).mono fun ev HC hh=>?_;obtain⟨rfl,Mx,k13⟩:=hh;have ty13:∀(b':Nat)(B:OA)(m d:Nat)(xs:List Int),cP HM.drew b' 3 B m d (aT xs)->cP HC b' 3 B m d (aT xs):=by
      intro b' B m d xs h;refine aE.kp (size:=1) h k13 fun k hk e=>?_;obtain⟨t,ht,ND⟩:=e.2;obtain⟨cur,Gc⟩:=aE.block_type (size:=1) h k hk;have:t=3:=ND.ne ⟨_,_,Gc⟩;subst this;simp at ht
    have ol13:=ty13 _ _ _ _ _ (aE.kept (size:=1) ol12 gd);have od13:=ty13 _ _ _ _ _ (aE.kept (size:=1) od12 gd);have of13:=aE.kp (KO.kept gd) k13 fun k hk e=>by
      obtain⟨t,ht,ND⟩:=e.2;obtain⟨cur,Gc⟩:=(KO.kept gd).block_type k hk;have:t=5:=ND.ne ⟨_,_,Gc⟩;subst this;simp at ht
    refine⟨rfl,by omega,b.length-(j+1),by omega,j+1,by omega,by omega,rfl,?_,ol13.row,od13.row,of13,(K12.drew).then k13 (fun k _ e=>by have:=e.1;have:=K9.size;omega),Nat.le_trans sz12 (Nat.le_trans gd.size k13.size),ol13,_,od13⟩;rw[List.take_succ_eq_append_getElem (by simpa using lj),sw];have:fY ls [(fe b)[j]'(by simpa using lj)]=cK (cd ls b[j].toNat) q:=by
      simp[fY,tq]
    rw[this];exact Mx
  · have e:j=b.length:=by omega
    subst e;rw[List.take_of_length_le (by simp)]at I3 OS Qq;have PE:(fe b).length=b.length:=by simp
    refine(pT I3 (by omega) sz12).mono fun ev LL hh=>?_;obtain⟨WT,TS,c14,rfl,Kv,Hz⟩:=hh;refine⟨_,_,_,rfl,?_⟩;have L3:=cX Kv;rw[bM]at L3;have M0:=cX f2;have IJ:=cX e2;obtain⟨WS,TR,c15,P7,h1,h2,h3,h4⟩:=aO (KO.kept Hz) Kv.row (cX Kv) (cY Kv) (by omega) (Nat.le_trans K12.size Hz.size);refine⟨_,_,_,P7,h1,_,_,_,rfl,?_,?_⟩
    · rw[Jl];simpa using h2
    · exact((K12.step Hz (fun k hk=>by cases hk)).step h3 (fun k hk=>.inr (KO.block_ge k hk))).grown (fun k hk e=>by omega)
end Go.Proofs.YtlieaecnllkefaaGreat
/-! The readers' heads: numbers and lengths: the walks. -/
namespace Go.Proofs.YtlieaecnllkefaaGreat
open Go Go.V Go.RowKit
theorem C0(l:List Int)(k:Nat):(bY l).drop k=bY (l.drop k):=by simp
theorem qg{w:World}{A:OA}{c k:Nat}{l:List Int}(h:aZ w A (bY l))(hc:l.length<=c):aZ w (bK A c k 1) (bY (l.drop k)):=by
 unfold bK;split
 ·rename_i GW;rw[List.drop_eq_nil_of_le (by omega)];intro j u hj;simp at hj
 ·have:=h.drop (k*1);rw[Nat.mul_one,C0]at this;rw[Nat.mul_one];exact this
theorem wB{A:OA}{c k:Nat}{a:Addr}(h:bK A c k 1=some a):∃ a',A=some a'/\a.block=a'.block:=by
 unfold bK at h;split at h
 ·exact⟨a,h,rfl⟩
 ·cases A with
  | none=>simp at h
  | some a'=>simp at h;subst h;exact⟨a',rfl,aL _ _⟩
def iQ(w:World)(g:Nat)(l:List Int)(ok:Bool):Prop:=∃(A:OA)(n c:Nat),w.heap[g]?=some (.cells #[.slice A n c,.bool ok] 236 (0,0))/\aZ w A (bY l)/\n=l.length/\n<=c/\∀ a,A=some a->l=[]∨a.block<g
theorem iQ.kp{w w':World}{S:Nat->Prop}{g:Nat}{l:List Int}{ok:Bool}(h:iQ w g l ok)(hk:Kp w w' S)(hS:∀ k,k<=g->¬ S k):iQ w' g l ok:=by
 obtain⟨A,n,c,h1,h2,h3,h4,h5⟩:=h;exact⟨A,n,c,by rw[hk.block g (Array.getElem?_eq_some_iff.1 h1).1 (hS g (Nat.le_refl _))];exact h1,h2.kpE hk (fun a ha=>(h5 a ha).imp (fun e=>by rw[e];rfl) (fun e=>hS _ (by omega))),h3,h4,h5⟩
theorem iQ.lt{w:World}{g:Nat}{l:List Int}{ok:Bool}(h:iQ w g l ok):g<w.heap.size:=by
 obtain⟨A,n,c,h1,_⟩:=h;exact(Array.getElem?_eq_some_iff.1 h1).1
theorem cA{w w':World}{S:Nat->Prop}{g j:Nat}{u:Value}(h:Kp w w' S)(hS:S g):Kp w (w'.setCell ⟨g,j,none⟩ u) S:=h.set (p:=⟨g,j,none⟩) (.inr hS) u
theorem set2{w w':World}{S:Nat->Prop}{b j:Nat}{u:Value}(h:Kp w w' S)(hS:S b):Kp w (w'.setCell ((⟨b,0,none⟩:Addr).add j) u) S:=h.set (.inr (by rw[aL];exact hS)) u
theorem nQ{w:World}{g:Nat}{l:List Int}{ok:Bool}{most:Int}(h:iQ w g l ok)(hb:aW l)(hl:l.length<=2^40)(hm:0<=most/\most<=9223372036854775807):
    Calls P 161 #[.pointer (some ⟨g,0,none⟩),.int .u64 most] w fun ev w'=>ev=.returned (.int .i64 (dt most l).1)/\iQ w' g (l.drop (dt most l).2.1) (ok && decide ((dt most l).2.2=0))/\Kp w w' (fun k=>k=g):=by
  obtain⟨A,n,c,h1,h2,h3,h4,h5⟩:=h;apply vc161;dsimp only[VC161,Wt,Bb,Rs,iq]
  try simp only[aG]
  refine⟨_,rfl,_,_,_,aB h1 0,?_⟩;refine(mK (most:=most) h2 h3 hb (by omega)).mono fun ev w1 hh=>?_;obtain⟨rfl,g1⟩:=hh;have ht:=jV (most:=most) (b:=l) (fun x hx=>(hb x hx).1);obtain⟨v,k,e,hv⟩:∃ v k e,dt most l=(v,k,e):=⟨_,_,_,rfl⟩;rw[hv]at ht ⊢;simp only at ht ⊢;have HJ:=aI g1;have lt:g<w.heap.size:=(Array.getElem?_eq_some_iff.1 h1).1;have Ir:w1.drew.heap[g]?=some (.cells #[.slice A n c,.bool ok] 236 (0,0)):=by rw[HJ.block g lt (by simp)];exact h1
  have tk:(k:Int).toNat=k:=by omega
  have KH:k<=n:=by omega
  have GY:=aH Ir 0 (.slice (bK A c k 1) (n-k) (c-k));have fin:∀ q:Bool,iQ ((w1.drew.setCell ⟨g,0,none⟩ (.slice (bK A c k 1) (n-k) (c-k))).setCell ⟨g,1,none⟩ (.bool q)) g (l.drop k) q/\Kp w ((w1.drew.setCell ⟨g,0,none⟩ (.slice (bK A c k 1) (n-k) (c-k))).setCell ⟨g,1,none⟩ (.bool q)) (fun k=>k=g):=by
    intro q;have K:Kp w ((w1.drew.setCell ⟨g,0,none⟩ (.slice (bK A c k 1) (n-k) (c-k))).setCell ⟨g,1,none⟩ (.bool q)) (fun k=>k=g):=cA (cA (Kp.of_none HJ) rfl) rfl;refine⟨⟨_,_,_,by simpa using aH GY 1 (.bool q),?_,by simp;omega,by omega,?_⟩,K⟩
    · exact qg (h2.kpE K (fun a ha=>(h5 a ha).imp (fun e=>by rw[e];rfl) (fun e=>by omega))) (by omega)
    · intro a ha;obtain⟨a',e1,e2⟩:=wB ha;exact(h5 a' e1).imp (fun e=>by rw[e];simp) (fun e=>by omega)
  refine⟨v,(k:Int),e,rfl,_,rfl,_,_,_,aB Ir 0,⟨by omega,by omega⟩,?_⟩;rw[tk];refine⟨_,rfl,ok,by rw[aP];exact aB Ir 1,fun h=>?_,fun h=>?_⟩
  · refine⟨_,rfl,⟨_,aB Ir 0⟩,aD Ir 0,_,rfl,⟨_,by rw[aP];exact aB GY 1⟩,by rw[aP];exact aD GY 1,⟨by omega,by omega⟩,rfl,?_⟩;rw[aP,h,Bool.true_and];exact fin _
  · refine⟨_,rfl,⟨_,aB Ir 0⟩,aD Ir 0,_,rfl,⟨_,by rw[aP];exact aB GY 1⟩,by rw[aP];exact aD GY 1,⟨by omega,by omega⟩,rfl,?_⟩;rw[aP,h,Bool.false_and];exact fin _
def zE(l ls tail:List Int):Prop:=ls.length=256/\(∀ v∈ls,0<=v/\v<=15)/\l=cF (cZ ls)++(dC ls 0 0++tail)
theorem zE.step{ls tail r:List Int}{k:Nat}{n:Int}(IW:ls.length=256)(hr:∀ v∈ls,0<=v/\v<=15)(hk:k<=256)(hn:n=(cZ (ls.drop k):Int))(hp:0<n)(he:r=dC (ls.drop k) k k++tail):
    ∃(i:Nat)(x:Int)(r1:List Int),k+i<256/\0<=x/\x<=15/\r=cF i++r1/\r1=cF x.toNat++(dC (ls.drop (k+i+1)) (k+i+1) (k+i+1)++tail)/\(qI ls k).set (k+i) x=qI ls (k+i+1)/\n-1=(cZ (ls.drop (k+i+1)):Int):=by
  obtain⟨i,x,h1,h2,h3,h4,h5⟩:=nR (ls.drop k) k k (Nat.le_refl _) (by omega);obtain⟨u1,u2⟩:=BZ IW (fun v hv=>(hr v hv).1) hk h1 h3;have hx:=hr x (List.mem_of_mem_drop (List.mem_of_getElem? h1));rw[List.drop_drop,show k+(i+1)=k+i+1 by omega]at h4 h5;refine⟨i,x,_,u1,hx.1,hx.2,?_,rfl,u2,by omega⟩;rw[he,h4,show k+i-k=i by omega];simp
theorem Aq {w :World} {g:Nat} {l:List Int} (h:iQ w g l true) (hb:aW l) (hl:l.length<=2^40) :
    Calls P 162 #[.pointer (some ⟨g,0,none⟩)] w fun ev w'=>∃(A':OA)(c':Nat)(out:List Int)(ok:Bool)(p:Nat),ev=.returned (.slice A' 256 c')/\aZ w' A' (aT out)/\out.length=256/\iQ w' g (l.drop p) ok/\Kp w w' (fun k=>k=g)/\∀ ls tail,zE l ls tail->ok=true/\out=ls/\l.drop p=tail:=by
  apply vc162;dsimp only[VC162,Wt,Br,Bb,Ix,cI,iq]
  try simp only[aG]
  obtain⟨w1,HN,FR,g1⟩:=jm (P:=P) (w:=w) jh (by omega) (m:=256) (by omega);have Xs:=h.lt;refine⟨_,_,_,w1,HN,?_⟩;have h1:iQ w1 g l true:=h.kp (S:=fun _=>False) (Kp.of_none g1) (fun _ _ h=>h);refine(nQ (most:=256) h1 hb hl (by omega)).mono fun ev w2 hh=>?_;obtain⟨rfl,RQ,k2⟩:=hh;have ht:=jV (most:=256) (b:=l) (fun x hx=>(hb x hx).1);have o2:cQ w2 w.heap.size 3 256 (List.replicate 256 (.int .i64 0)):=FR.of_heap (k2.block _ FR.lt (by omega));have K2:Kp w w2 (fun k=>k=g):=(Kp.of_none g1).then k2 (fun k _ e=>e);refine⟨_,rfl,?_⟩;refine⟨fun m next n w3=>∃(p k:Nat)(out:List Int)(ok:Bool),next=(k:Int)/\k<=256/\m=n.toNat/\0<=n/\n<=256/\cQ w3 w.heap.size 3 256 (aT out)/\out.length=256/\iQ w3 g (l.drop p) ok/\Kp w w3 (fun k=>k=g)/\∀ ls tail,zE l ls tail->ok=true/\out=qI ls k/\n=(cZ (ls.drop k):Int)/\l.drop p=dC (ls.drop k) k k++tail,
    ⟨_,_,0,List.replicate 256 0,_,rfl,by omega,rfl,by omega,by omega,by simpa[aT]using o2,by simp,RQ,K2,?_⟩,?_⟩
  · rintro ls tail ⟨IW,hr,he⟩;have Sy:=kr ls;have GD:=fL (most:=256) (n:=cZ ls) (by omega) (by omega) (dC ls 0 0++tail);rw[← he]at GD;rw[GD];refine⟨by simp,(BY ls).symm,by simp,?_⟩;show l.drop (cF (cZ ls)).length=_;rw[he];simp
  rintro m next n w3 ⟨p,k,out,ok,rfl,hk,rfl,JW,Ii,ho,Hh,hN,K3,hc⟩
  have IQ:∀ w',w'.heap[w.heap.size]?=w3.heap[w.heap.size]?->cQ w' w.heap.size 3 256 (aT out):=fun w' e=>ho.of_heap e;have fin:∀ w' (o':List Int),cQ w' w.heap.size 3 256 (aT o')->aZ w' (some ⟨w.heap.size,0,none⟩) (aT o'):=fun w' o' h=>h.row;refine⟨fun FX=>?_,fun hz=>?_⟩
  · obtain⟨A,nn,cc,b1,b2,b3,b4,b5⟩:=hN;have hN:iQ w3 g (l.drop p) ok:=⟨A,nn,cc,b1,b2,b3,b4,b5⟩;refine⟨_,rfl,ok,by rw[aP];exact aB b1 1,fun hok=>?_,fun hok=>?_⟩
    · subst hok;have GA:aW (l.drop p):=fun x hx=>hb x (List.mem_of_mem_drop hx);refine(nQ (most:=256) hN GA (by simp;omega) (by omega)).mono fun ev w4 hh=>?_;obtain⟨rfl,PW,k4⟩:=hh;have PD:=jV (most:=256) (b:=l.drop p) (fun x hx=>(GA x hx).1);obtain⟨v,q,e,hv⟩:∃ v q e,dt 256 (l.drop p)=(v,q,e):=⟨_,_,_,rfl⟩;rw[hv]at PD PW ⊢;simp only[Bool.true_and]at PD PW ⊢;rw[List.drop_drop]at PW;have GU:cQ w4 w.heap.size 3 256 (aT out):=ho.of_heap (k4.block _ ho.lt (by omega));have K4:Kp w w4 (fun k=>k=g):=K3.then k4 (fun k _ e=>e);obtain⟨A4,n4,c4,d1,d2,d3,d4,d5⟩:=PW;have LC:∀ ls tail,zE l ls tail->∃(x:Int)(i:Nat),v=(i:Int)/\e=0/\k+i<256/\0<=x/\x<=15/\l.drop (p+q)=cF x.toNat++(dC (ls.drop (k+i+1)) (k+i+1) (k+i+1)++tail)/\out.set (k+i) x=qI ls (k+i+1)/\n-1=(cZ (ls.drop (k+i+1)):Int):=by
        intro ls tail hd;obtain⟨_,c1,c2,c3⟩:=hc ls tail hd;obtain⟨i,x,r1,s1,s2,s3,s4,s5,s6,s7⟩:=zE.step hd.1 hd.2.1 hk c2 FX c3;have GD:=fL (most:=256) (n:=i) (by omega) (by omega) r1;rw[← s4,hv]at GD;have e1:v=(i:Int):=congrArg Prod.fst GD;have e2:q=(cF i).length:=congrArg (fun t=>t.2.1) GD;have e3:e=0:=congrArg (fun t=>t.2.2) GD;refine⟨x,i,e1,e3,s1,s2,s3,?_,by rw[c1];exact s6,s7⟩;rw[← List.drop_drop,s4,e2,List.drop_left,s5]
      refine⟨v,rfl,by omega,_,rfl,decide (e=0),by rw[aP];exact aB d1 1,fun he=>?_,fun he=>?_⟩
      · have VG:e=0:=by simpa using he
        have GY:=aH d1 1 (.bool (decide ((k:Int)+v<256)));have K5:Kp w4 (w4.setCell ⟨g,1,none⟩ (.bool (decide ((k:Int)+v<256)))) (fun k=>k=g):=cA (Kp.refl w4 _) rfl;have Kq:=GU.of_heap (K5.block _ GU.lt (by omega));have KX:iQ (w4.setCell ⟨g,1,none⟩ (.bool (decide ((k:Int)+v<256)))) g (l.drop (p+q)) (decide ((k:Int)+v<256)) :=
          ⟨A4,n4,c4,by simpa using GY,d2.kpE K5 (fun a ha=>(d5 a ha).imp (fun e=>by rw[e];rfl) (fun e=>by omega)),d3,d4,d5⟩
        refine⟨_,rfl,⟨_,by rw[aP];exact aB d1 1⟩,by rw[aP];exact aD d1 1,_,rfl,decide ((k:Int)+v<256),?_,fun FP=>?_,fun FU=>?_⟩
        · rw[aP];simpa using aB GY 1
        · rw[aP];have IV:(k:Int)+v<256:=by simpa using FP
          rw[FP]at KX;simp only[FP]at Kq KX K5 ⊢;have Rt:aW (l.drop (p+q)):=fun x hx=>hb x (List.mem_of_mem_drop hx);refine(nQ (most:=15) KX Rt (by simp;omega) (by omega)).mono fun ev w6 hh=>?_;obtain⟨rfl,Wp,k6⟩:=hh;have HT:=Kq.of_heap (k6.block _ Kq.lt (by omega));have tv:((k:Int)+v).toNat=k+v.toNat:=by omega
          have FV:=HT.cell (j:=k+v.toNat) (u:=.int .i64 (out.getD (k+v.toNat) 0)) (pZ (by omega));refine⟨_,rfl,by omega,_,rfl,by omega,by omega,?_,?_,by omega,(n-1).toNat,by omega,?_⟩
          · rw[tv];exact⟨_,FV⟩
          · exact HT.notFrozen (aL _ _)
          · rw[tv];have Gy:=HT.set (j:=k+v.toNat) (by rw[List.length_map];omega) (.int .i64 (dt 15 (l.drop (p+q))).1);rw[uE]at Gy;have K6:Kp w (w6.setCell ((⟨w.heap.size,0,none⟩:Addr).add (k+v.toNat)) (.int .i64 (dt 15 (l.drop (p+q))).1)) (fun k=>k=g):=((K4.then K5 (fun k _ e=>e)).then k6 (fun k _ e=>e)).set (.inl (by rw[aL];exact Nat.le_refl _)) _;have Tr:=Wp.kp (S:=fun k=>k=w.heap.size) (set2 (b:=w.heap.size) (j:=k+v.toNat) (u:=.int .i64 (dt 15 (l.drop (p+q))).1) (Kp.refl w6 _) rfl) (fun k hk e=>by omega);rw[List.drop_drop]at Tr;refine⟨_,k+v.toNat+1,out.set (k+v.toNat) (dt 15 (l.drop (p+q))).1,_,by omega,by omega,rfl,by omega,by omega,Gy,by simp;omega,Tr,K6,?_⟩;intro ls tail hd;obtain⟨x,i,a1,a2,a3,a4,a5,a6,a7,a8⟩:=LC ls tail hd;have GD:=fL (most:=15) (n:=x.toNat) (by omega) (by omega) (dC (ls.drop (k+i+1)) (k+i+1) (k+i+1)++tail);rw[← a6]at GD;have ti:v.toNat=i:=by omega
            rw[GD,ti];refine⟨by simp,?_,a8,?_⟩
            · show out.set (k+i) ((x.toNat:Nat):Int)=_;rw[show((x.toNat:Nat):Int)=x by omega];exact a7
            · show l.drop (p+q+(cF x.toNat).length)=_;rw[← List.drop_drop,a6,List.drop_left]
        · rw[aP];simp only[FU]at Kq KX K5 ⊢;refine⟨by omega,(n-1).toNat,by omega,p+q,k,out,false,rfl,hk,rfl,by omega,by omega,Kq,Hh,KX,K4.then K5 (fun k _ e=>e),?_⟩;intro ls tail hd;obtain⟨x,i,a1,a2,a3,_⟩:=LC ls tail hd;exfalso;have:decide ((k:Int)+v<256)=true:=by simp;omega
          rw[FU]at this;cases this
      · have GY:=aH d1 1 (.bool false);have K5:Kp w4 (w4.setCell ⟨g,1,none⟩ (.bool false)) (fun k=>k=g):=cA (Kp.refl w4 _) rfl;have Kq:=GU.of_heap (K5.block _ GU.lt (by omega));have KX:iQ (w4.setCell ⟨g,1,none⟩ (.bool false)) g (l.drop (p+q)) false :=
          ⟨A4,n4,c4,by simpa using GY,d2.kpE K5 (fun a ha=>(d5 a ha).imp (fun e=>by rw[e];rfl) (fun e=>by omega)),d3,d4,d5⟩
        refine⟨_,rfl,⟨_,by rw[aP];exact aB d1 1⟩,by rw[aP];exact aD d1 1,_,rfl,false,?_,fun h=>(by cases h),fun _=>?_⟩
        · rw[aP];simpa using aB GY 1
        · rw[aP];refine⟨by omega,(n-1).toNat,by omega,p+q,k,out,false,rfl,hk,rfl,by omega,by omega,Kq,Hh,KX,K4.then K5 (fun k _ e=>e),?_⟩;intro ls tail hd;obtain⟨x,i,a1,a2,_⟩:=LC ls tail hd;exfalso;have:decide (e=0)=true:=by simpa using a2
          rw[he]at this;cases this
    · exact⟨_,_,out,ok,p,rfl,fin w3 out ho,Hh,hN,K3,fun ls tail hd=>by have:=(hc ls tail hd).1;rw[hok]at this;cases this⟩
  · refine⟨_,_,out,ok,p,rfl,fin w3 out ho,Hh,hN,K3,fun ls tail hd=>?_⟩;obtain⟨c0,c1,c2,c3⟩:=hc ls tail hd;have Ls:cZ (ls.drop k)=0:=by omega
    obtain⟨h1,h2⟩:=p9 (ls.drop k) k k Ls;rw[h1,List.nil_append]at c3;refine⟨c0,?_,c3⟩;rw[c1];exact CZ hd.1 (fun v hv=>(hd.2.1 v hv).1) hk h2
end Go.Proofs.YtlieaecnllkefaaGreat
/-! archipelagoref5's lengths: the walk. -/
namespace Go.Proofs.YtlieaecnllkefaaGreat
open Go Go.V Go.RowKit
end Go.Proofs.YtlieaecnllkefaaGreat
/-! huff.Read: the walk. -/
namespace Go.Proofs.YtlieaecnllkefaaGreat
open Go Go.V Go.RowKit
theorem na:∀(l:List Int)(s nx:Nat),aW (dC l s nx)
 | [],s,nx=>by intro y hy;simp[dC]at hy
 | x ::l,s,nx=>by
  rw[dC];split
  ·intro y hy;rcases List.mem_append.1 hy with e | e
   ·exact gu _ y e
   ·rcases List.mem_append.1 e with e | e
    ·exact gu _ y e
    ·exact na l _ _ y e
  ·exact na l _ _
theorem oM(b:List Int):aW (de b):=by
 unfold de;split
 ·exact gu 0
 ·intro y hy;rcases List.mem_append.1 hy with e | e
  ·exact gu _ y e
  ·rcases List.mem_append.1 e with e | e
   ·exact gu _ y e
   ·rcases List.mem_append.1 e with e | e
    ·exact na _ _ _ y e
    ·exact rV _ y e
abbrev BQ:Value:=.tuple #[.slice none 0 0,.int .i64 21]
theorem Fx{w:World}{b s n c:Nat}{e:TypeId}{A:OA}{xs:List Value}(h:aE w b e s A n c xs):n<=c:=by
 obtain⟨_,⟨_,e1,e2,_⟩ | ⟨g,cur,_,_,_,e,_⟩⟩:=h.cases
 ·omega
 ·exact e
def zB(x:List Int)(ev:Ending)(w':World):Prop :=
 (∃(A':OA)(n' c':Nat)(o:List Int),ev=.returned (.tuple #[.slice A' n' c',.int .i64 0])/\aZ w' A' (bY o)/\(n'=o.length/\n'<=c')/\aW o/\o.length<=2^20/\de o=x) ∨
 (ev=.returned BQ/\∀ o,aW o->o.length<2^62->de o≠x)
theorem vY{w:World}{A B:OA}{n c m d:Nat}{x o:List Int}{R:Ending->World->Prop}{bad good:Ending}(hA:aZ w A (bY x))(hn:n=x.length)(hb:aW x)(hB:aZ w B (bY o))(hm:m=o.length)(KP:aW o)(hl:m<=2^20)
    (Iq:de o≠x->∀ w',w.grownBy w' none->R bad w') (Jb:de o=x->∀ w',w.grownBy w' none->R good w') :
    Calls P 69 #[.slice B m d] w fun ev w1=>∃(C:OA)(k e:Nat),ev=.returned (.slice C k e)/\Calls P 50 #[.slice C k e,.slice A n c] w1 fun ev2 w2=>∃ q:Bool,ev2=.returned (.bool q)/\((q=false->R bad w2)/\(¬ q=false->R good w2)):=by
  refine(po hB hm KP hl).mono fun ev w1 hh=>?_;obtain⟨C,k,e,rfl,oC,g1⟩:=hh;refine⟨_,_,_,rfl,?_⟩;refine(ij oC.row (cX oC) (hA.kept_none g1) hn (oM o) hb).mono fun ev w2 hh=>?_;obtain⟨rfl,rfl⟩:=hh;exact⟨_,rfl,fun h=>Iq (by simpa using h) _ g1,fun h=>Jb (by simpa using h) _ g1⟩
theorem EC{o x:List Int}(ho:aW o)(hl:o.length<2^62)(h:de o=x){most:Int}(hm:2^62<=most):∃ k,dt most x=((o.length:Int),k,0)/\k<=x.length/\(o≠[]->zE (x.drop k) (lF o) (dN (fY (lF o) (fe o)))):=by
 by_cases FS:o=[]
 ·subst FS;have:=fL (most:=most) (n:=0) (by omega) (by omega) [];rw[List.append_nil,show cF 0=x by simpa[de]using h]at this;refine⟨_,by simpa using this,?_,fun e=>absurd rfl e⟩;rw[← show cF 0=x by simpa[de]using h];exact Nat.le_refl _
 ·rw[de,if_neg FS]at h;have:=fL (most:=most) (n:=o.length) (by omega) (by omega) (cF (cZ (lF o))++(dC (lF o) 0 0++dN (fY (lF o) (fe o))));rw[h]at this;obtain⟨l1,r1,s1,v1⟩:=fu ho FS;refine⟨_,this,?_,fun _=>⟨l1,v1,?_⟩⟩
  ·rw[← h,List.length_append];omega
  ·rw[← h,List.drop_left]
theorem m9 {w :World} {A:OA} {n c:Nat} {x:List Int} (hr:aZ w A (bY x)) (hn:n=x.length) (hc:n<=c) (hb:aW x) (hl:x.length<=2^16) :
    Calls P 121 #[.slice A n c] w fun ev w'=>w.grownBy w' none/\zB x ev w':=by
  apply vc121;dsimp only[VC121,rt,Br,Bb,Rs,Ap,cI,cB,cS,nb,iq]
  try simp only[aG]
  have gal:=World.grownBy_alloc w (.cells #[.slice A n c,.bool true] 236) none;have TG:∀ a,A=some a->x=[]∨a.block<w.heap.size:=fun a ha=>by
    by_cases e:x=[]
    · exact .inl e
    · obtain⟨q,q1,q2⟩:=hr.blk (by simpa using e);rw[ha]at q1;cases q1;exact .inr q2
  have Wq:iQ (w.alloc (.cells #[.slice A n c,.bool true] 236)) w.heap.size x true:=⟨A,n,c,heap_alloc_new w _,hr.kept_none gal,hn,hc,TG⟩;refine(nQ (most:=9223372036854775807) Wq hb (by omega) (by omega)).mono fun ev w1 hh=>?_;obtain⟨rfl,Ng,k1⟩:=hh;have K1:Kp w w1 (fun k=>w.heap.size<=k):=(Kp.of_none gal).then k1 (fun k _ e=>by omega);have keepX:∀ w',Kp w w' (fun k=>w.heap.size<=k)->aZ w' A (bY x):=fun w' K=>hr.kpE K (fun a ha=>(TG a ha).imp (fun e=>by rw[e];rfl) (fun e=>by omega));have grw:∀ w',Kp w w' (fun k=>w.heap.size<=k)->w.grownBy w' none:=fun w' K=>K.grown (fun k hk e=>by omega);have ht:=jV (most:=9223372036854775807) (b:=x) (fun y hy=>(hb y hy).1);have hO:∀ o,aW o->o.length<2^62->de o=x->∃ k,dt 9223372036854775807 x=((o.length:Int),k,0)/\k<=x.length/\(o≠[]->zE (x.drop k) (lF o) (dN (fY (lF o) (fe o)))):=fun o h1 h2 h3=>EC h1 h2 h3 (by omega);obtain⟨N,k0,e0,hv⟩:∃ v k e,dt 9223372036854775807 x=(v,k,e):=⟨_,_,_,rfl⟩;rw[hv]at ht hO Ng ⊢;simp only[Bool.true_and]at ht Ng ⊢;obtain⟨A1,n1,c1,b1,b2,b3,b4,b5⟩:=Ng;have Ng:iQ w1 w.heap.size (x.drop k0) (decide (e0=0)):=⟨A1,n1,c1,b1,b2,b3,b4,b5⟩;have FV:w1.cell? ((⟨w.heap.size,0,none⟩:Addr).add 1)=some (.bool (decide (e0=0))):=by rw[aP];exact aB b1 1
  have GA:aW (x.drop k0):=fun y hy=>hb y (List.mem_of_mem_drop hy);refine⟨N,rfl,_,rfl,decide (e0=0),FV,fun hok=>⟨fun FX=>?_,fun hz=>?_⟩,fun hok=>?_⟩
  · have VG : e0=0:=by simpa using hok
    rw[hok]at Ng;have Nf:∀ o,aW o->o.length<2^62->de o=x->(o.length:Int)=N/\o≠[]/\zE (x.drop k0) (lF o) (dN (fY (lF o) (fe o))):=by
      intro o h1 h2 h3;obtain⟨k,e1,e2,e3⟩:=hO o h1 h2 h3;have a1:N=(o.length:Int):=congrArg Prod.fst e1;have a2:k0=k:=congrArg (fun t=>t.2.1) e1;have FS:o≠[]:=fun e=>by rw[e]at a1;simp at a1;omega
      subst a2;exact⟨a1.symm,FS,e3 FS⟩
    refine(Aq Ng GA (by simp;omega)).mono fun ev w2 hh=>?_;obtain⟨A2,c2,ls,ok,p,rfl,r2,IW,RQ,k2,Ik⟩:=hh;have K2:Kp w w2 (fun k=>w.heap.size<=k):=K1.then k2 (fun k _ e=>by omega);refine⟨_,_,_,rfl,?_⟩;refine(wn (ls:=ls) r2 IW.symm (by omega)).mono fun ev w3 hh=>?_;obtain⟨g3,OX⟩:=hh;have K3:Kp w w3 (fun k=>w.heap.size<=k):=K2.step g3 (fun k hk=>by cases hk);have PX:iQ w3 w.heap.size ((x.drop k0).drop p) ok:=RQ.kp (S:=fun _=>False) (Kp.of_none g3) (fun _ _ h=>h);obtain⟨A3,n3,c3,d1,d2,d3,d4,d5⟩:=PX;have PX:iQ w3 w.heap.size ((x.drop k0).drop p) ok:=⟨A3,n3,c3,d1,d2,d3,d4,d5⟩;have J8:w3.cell? ((⟨w.heap.size,0,none⟩:Addr).add 1)=some (.bool ok):=by rw[aP];exact aB d1 1
    have Gh:=grw w3 K3;have Kc:ok=false->zB x (.returned BQ) w3:=fun h=>.inr ⟨rfl,fun o h1 h2 h3=>by
      obtain⟨_,_,a3⟩:=Nf o h1 h2 h3;have:=(Ik _ _ a3).1;rw[h]at this;cases this⟩
    rcases OX with⟨hf,rfl⟩ | ⟨hR,gt,rfl,hT⟩
    · refine⟨_,_,rfl,_,rfl,ok,J8,fun h=>⟨Gh,Kc h⟩,fun h=>⟨fun _=>⟨Gh,.inr ⟨rfl,fun o h1 h2 h3=>?_⟩⟩,fun h=>absurd rfl h⟩⟩;obtain⟨_,a2,a3⟩:=Nf o h1 h2 h3;have e:=(Ik _ _ a3).2.1;rw[e,(fu h1 a2).2.1]at hf;cases hf
    refine⟨_,_,rfl,_,rfl,ok,J8,fun h=>⟨Gh,Kc h⟩,fun Jo=>⟨fun h=>(by cases h),fun _=>?_⟩⟩;have SD:ok=true:=by simpa using Jo
    generalize Lm:(x.drop k0).drop p=rest at *;have Hs:rest.length<=x.length:=by rw[← Lm];simp only[List.length_drop];omega
    have Qx:aW rest:=fun y hy=>by rw[← Lm]at hy;exact hb y (List.mem_of_mem_drop (List.mem_of_mem_drop hy))
    refine⟨_,rfl,_,_,_,aB d1 0,?_⟩;have glt:=PX.lt;refine(sQ d2 d3 (fun a ha=>(d5 a ha).imp id (fun e=>by omega))).mono fun ev w4 hh=>?_;obtain⟨rfl,Tl,g4⟩:=hh;have l34:w3.heap.size<w4.heap.size:=(Array.getElem?_eq_some_iff.1 Tl.blk).1;refine⟨_,rfl,?_⟩
    refine⟨fun m n' Ao no co w5=>∃(j at_:Nat)(out:List Int),n'=N-(j:Int)/\(j:Int)<=N/\m=(N-(j:Int)).toNat/\out.length=j/\j<=at_/\aW out/\aE w5 w4.heap.size 5 1 Ao no co (bY out)/\jt w5 w3.heap.size A3 n3 c3 rest at_/\Kp w3 w5 (fun k=>w3.heap.size<=k)/\w4.heap.size<=w5.heap.size ∧
        ∀ o,aW o->o.length<2^62->de o=x->(∃ r,(aX rest).drop at_=fY ls (fe (o.drop j))++r)/\out=o.take j,
      ⟨_,0,0,[],by omega,by omega,rfl,rfl,by omega,(fun y hy=>by cases hy),aE.nil _ _ _ _,Tl,Kp.of_none g4,Nat.le_refl _,fun o h1 h2 h3=>?_⟩,?_⟩
    · obtain⟨a1,a2,a3⟩:=Nf o h1 h2 h3;obtain⟨_,e1,e2⟩:=Ik _ _ a3;refine⟨?_,by simp⟩;rw[e2,gM,e1];exact⟨_,rfl⟩
    rintro m n' Ao no co w5 ⟨j,at_,out,rfl,Xm,rfl,Hh,M9,KP,ho,Pg,K5,s45,Mm⟩;have K05:Kp w w5 (fun k=>w.heap.size<=k):=K3.then K5 (fun k hk e=>by have:=K3.size;omega);have UZ:=Pg.le;have Hm:=cX ho;refine⟨fun FP=>?_,fun FU=>?_⟩
    · have Wj :qu w5 w3.heap.size gt ls:=hT.kp K5 (fun k hk e=>by omega);refine(vo Wj (Nat.le_refl _) Pg (by omega) Qx hR).mono fun ev w6 hh=>?_;obtain⟨rfl,ME,k6⟩:=hh;have K06:Kp w w6 (fun k=>w.heap.size<=k):=K05.then k6 (fun k _ e=>by have:=K3.size;omega);cases hq:jz ls 15 0 0 ((aX rest).drop at_)with
      | none =>
        have LR:kL ls rest at_=(.tuple #[.int .i64 0,.bool false],at_):=by unfold kL;rw[hq]
        rw[LR];refine⟨_,_,rfl,fun _=>⟨grw w6 K06,.inr ⟨rfl,fun o h1 h2 h3=>?_⟩⟩,fun h=>absurd rfl h⟩;obtain⟨a1,a2,a3⟩:=Nf o h1 h2 h3;obtain⟨_,e1,e2⟩:=Ik _ _ a3;obtain⟨⟨r,f1⟩,f2⟩:=Mm o h1 h2 h3;have hj:j<o.length:=by omega
        rw[List.drop_eq_getElem_cons hj]at f1;have hs:=(fu h1 a2).2.2.1 o[j].toNat (by simp only[fe];exact List.mem_map_of_mem (List.getElem_mem hj));rw[← e1]at hs;rw[fe,List.map_cons,jQ,List.append_assoc]at f1;rw[f1,nM hR hs]at hq;cases hq
      | some sk =>
        obtain⟨s,k⟩:=sk;have LR:kL ls rest at_=(.tuple #[.int .i64 (s:Int),.bool true],at_+k):=by unfold kL;rw[hq]
        rw[LR]at ME ⊢;have FT:=vO _ _ _ _ _ _ _ hq;have HT:=ho.kp k6 (fun k hk e=>by have:=ho.block_ge k hk;omega);refine⟨_,_,rfl,fun h=>(by cases h),fun _=>?_⟩;have UY:=ME.le;obtain⟨A7,n7,c7,w7,e1,e2,e3,e4⟩:=eJ (x:=(s:Int)) HT (by omega) (Nat.le_trans s45 k6.size);refine⟨by omega,_,_,_,w7,e1,by omega,(N-((j+1:Nat):Int)).toNat,by omega,j+1,at_+k,out++[(s:Int)],by omega,by omega,rfl,by simp;omega,by omega,?_,e2,?_,?_,?_,?_⟩
        · intro y hy;rcases List.mem_append.1 hy with e | e
          · exact KP y e
          · have:y=(s:Int):=by simpa using e
            omega
        · refine ME.kp (Kp.of_grown e3) (fun e=>by have:=HT.block_ge _ e.symm;omega) (fun a ha=>(d5 a ha).imp id (fun e1 e=>by have:=HT.block_ge _ e.symm;omega))
        · exact(K5.then k6 (fun k _ e=>by omega)).step e3 (fun k hk=>.inr (by have:=HT.block_ge _ hk;omega))
        · exact Nat.le_trans s45 (Nat.le_trans k6.size e3.size)
        · intro o h1 h2 h3;obtain⟨a1,a2,a3⟩:=Nf o h1 h2 h3;obtain⟨_,q1,q2⟩:=Ik _ _ a3;obtain⟨⟨r,f1⟩,f2⟩:=Mm o h1 h2 h3;have hj:j<o.length:=by omega
          rw[List.drop_eq_getElem_cons hj]at f1;have hs:=(fu h1 a2).2.2.1 o[j].toNat (by simp only[fe];exact List.mem_map_of_mem (List.getElem_mem hj));rw[← q1]at hs;rw[fe,List.map_cons,jQ,List.append_assoc]at f1;rw[f1,nM hR hs]at hq;have s1:o[j].toNat=s:=by simpa using congrArg (fun q=>q.map Prod.fst) hq
          have s2:(ln ls o[j].toNat).toNat=k:=by simpa using congrArg (fun q=>q.map Prod.snd) hq
          have JC:=h1 _ (List.getElem_mem hj);refine⟨⟨r,?_⟩,?_⟩
          · rw[← List.drop_drop,f1,← s2];have:(cK (cd ls o[j].toNat) (ln ls o[j].toNat).toNat).length=(ln ls o[j].toNat).toNat:=ef _ _;rw[show(cK (cd ls o[j].toNat) (ln ls o[j].toNat).toNat++(fY ls (List.map Int.toNat (o.drop (j+1)))++r)).drop (ln ls o[j].toNat).toNat=(fY ls (List.map Int.toNat (o.drop (j+1)))++r) by
              conv=>lhs;arg 1;rw[← this]
              exact List.drop_left]
          · rw[List.take_succ_eq_append_getElem hj,← f2];congr 2;omega
    · have Ve:(j:Int)=N:=by omega
      have KX:=PX.kp K5 (fun k hk e=>by omega);obtain⟨A5,n5,c5,q1,q2,q3,q4,q5⟩:=KX;refine⟨_,rfl,ok,by rw[aP];exact aB q1 1,fun h=>absurd h Jo,fun _=>?_⟩;refine vY (R:=fun ev w'=>w.grownBy w' none/\zB x ev w') (keepX w5 K05) hn hb ho.row Hm KP (by omega) (fun FS w' g=>⟨aA (grw w5 K05) g,.inr ⟨rfl,fun o h1 h2 h3=>?_⟩⟩) (fun he w' g=>⟨aA (grw w5 K05) g,.inl ⟨_,_,_,out,rfl,(ho.kept g).row,⟨Hm,Fx ho⟩,KP,by omega,he⟩⟩);obtain⟨a1,a2,a3⟩:=Nf o h1 h2 h3;have f2:=(Mm o h1 h2 h3).2;rw[List.take_of_length_le (by omega)]at f2;rw[← f2]at h3;exact FS h3
  · refine⟨_,rfl,decide (e0=0),FV,fun h=>(by rw[hok]at h;cases h),fun _=>?_⟩;refine vY (R:=fun ev w'=>w.grownBy w' none/\zB x ev w') (o:=[]) (keepX w1 K1) hn hb (aZ.nil _ _) rfl (fun y hy=>by cases hy) (by omega) (fun FS w' g=>⟨aA (grw w1 K1) g,.inr ⟨rfl,fun o h1 h2 h3=>?_⟩⟩) (fun he w' g=>⟨aA (grw w1 K1) g,.inl ⟨_,_,_,[],rfl,aZ.nil _ _,⟨rfl,Nat.le_refl _⟩,(fun y hy=>by cases hy),by simp,he⟩⟩);obtain⟨k,e1,_⟩:=hO o h1 h2 h3;have a1:N=(o.length:Int):=congrArg Prod.fst e1;have:o=[]:=List.eq_nil_of_length_eq_zero (by omega);rw[this]at h3;exact FS h3
  · refine⟨_,rfl,decide (e0=0),FV,fun h=>⟨grw w1 K1,.inr ⟨rfl,fun o h1 h2 h3=>?_⟩⟩,fun h=>absurd hok h⟩;obtain⟨k,e1,_⟩:=hO o h1 h2 h3;have a1:e0=0:=congrArg (fun t=>t.2.2) e1;rw[a1]at hok;simp at hok
end Go.Proofs.YtlieaecnllkefaaGreat
/-! archipelagoref5.Read: the walk. -/
namespace Go.Proofs.YtlieaecnllkefaaGreat
open Go Go.V Go.RowKit
theorem DB{ls:List Int}(hR:cz ls=true):∀ ss:List Nat,(∀ s∈ss,s<ls.length/\0<ln ls s)->ss.length<=(fY ls ss).length
 | [],_=>by simp
 | s ::ss,h=>by
  have ih:=DB hR ss (fun t ht=>h t (by simp[ht]));have:=h s (by simp);rw[jQ,List.length_append,ef,List.length_cons];omega
theorem nP{o x:List Int}(ho:aW o)(h:de o=x):o.length<=8*x.length:=by
 by_cases FS:o=[]
 ·subst FS;simp
 ·obtain⟨l1,r1,s1,v1⟩:=fu ho FS;have h1:=DB r1 (fe o) s1;have h2:(dN (fY (lF o) (fe o))).length<=x.length:=by
   rw[← h,de,if_neg FS];simp only[List.length_append];omega
  rw[bM]at h2;have h3:(fe o).length=o.length:=by simp
  omega
end Go.Proofs.YtlieaecnllkefaaGreat
/-! archipelagolaw7: texts, what is known. -/
namespace Go.Proofs.YtlieaecnllkefaaGreat
open Go Go.V Go.RowKit
theorem fh(w:World)(cs:Array Value)(t:TypeId)(fr:Nat×Nat):aZ (w.alloc (.cells cs t fr)) (some ⟨w.heap.size,0,none⟩) cs.toList:=by
 intro j u hj;refine⟨_,rfl,?_⟩;rw[aP];have:(w.alloc (.cells cs t fr)).heap[w.heap.size]?=some (.cells cs t fr):=by
  show(w.heap.push _)[w.heap.size]?=_;simp
 rw[aB this];simpa using hj
theorem sB(w:World)(C:Array Value)(n c:Nat):Sem.run P (Go.convert 26 26 (.slice (some ⟨w.heap.size,0,none⟩) n c)) (w.alloc (.cells C 5))=.ok (.slice (some ⟨w.heap.size,0,none⟩) n c) (w.alloc (.cells C 5 (C.size,C.size+1))) :=
 Lib.run_convert_bytes_const (P:=P) w 26 5 C n c (by kernel_rfl) (by kernel_rfl)
theorem kX{w:World}{b s n c:Nat}{e:TypeId}{A:OA}{xs:List Value}(h:aE w b e s A n c xs):n<=c:=by
 obtain⟨_,⟨_,e1,e2,_⟩ | ⟨g,cur,_,_,_,e,_⟩⟩:=h.cases
 ·omega
 ·exact e
end Go.Proofs.YtlieaecnllkefaaGreat

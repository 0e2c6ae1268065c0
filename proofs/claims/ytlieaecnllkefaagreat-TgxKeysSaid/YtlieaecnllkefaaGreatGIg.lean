/- Own texts, packed: G1, G3, G5, H1, H2, H3, H4, H5, H6, H7, H8, H9, H10, H11. -/
import Derived.Test.YtlieaecnllkefaaGreatGHg
import Derived.Test.YtlieaecnllkefaaGreatGFg
import Derived.Test.YtlieaecnllkefaaGreatGXg
import Derived.Test.YtlieaecnllkefaaGreatGBg
import Derived.Test.YtlieaecnllkefaaGreatGGg
import Derived.Lib.SlBytesConst
/-! archipelagolaw6: known; lengths of numbers. -/
set_option linter.unusedVariables false
set_option linter.unusedSimpArgs false
set_option maxHeartbeats 4000000
set_option maxRecDepth 100000
namespace Go.Proofs.YtlieaecnllkefaaGreat
open Go Go.V Go.RowKit
theorem sB{w:World}{A:OA}{n c:Nat}{l:List Int}(hr:aZ w A (bV l))(hn:n=l.length)(hA:∀ a,A=some a->l=[]∨a.block<w.heap.size):
    Calls P 123 #[.slice A n c] w fun ev w'=>ev=.returned (.pointer (some ⟨w.heap.size,0,none⟩))/\jn w' w.heap.size A n c l 0/\w.grownBy w' none:=by
  apply vc123;dsimp only[VC123,nb,iq];have g:=World.grownBy_alloc w (.cells #[.slice A n c,.int .i64 0] 240) none;exact⟨rfl,⟨by simpa using heap_alloc_new w (.cells #[.slice A n c,.int .i64 0] 240),hr.kept_none g,hn,by omega,fun a ha=>(hA a ha).imp id (fun h=>by omega)⟩,g⟩
end Go.Proofs.YtlieaecnllkefaaGreat
/-! archipelagolaw6.CodeFree: the walk. -/
namespace Go.Proofs.YtlieaecnllkefaaGreat
open Go Go.V Go.RowKit
theorem Er(s t:Operand)(a b:Bool)(w:World):Sem.run P (do eqGuard .eql 4 s t (.bool a) (.bool b);Go.binOp .eql 4 (.bool a) (.bool b):Sem Value) w=.ok (.bool (a ==b)) w:=by
 cases a <;>cases b <;>kernel_rfl
end Go.Proofs.YtlieaecnllkefaaGreat
/-! archipelagolaw6.CodeTexts: the walk. -/
namespace Go.V
def fu(ls:List Int)(ss:List Nat):List Bool:=ss.flatMap fun s=>cF (cd ls s) (ln ls s).toNat
theorem rT(ls:List Int)(a b:List Nat):fu ls (a++b)=fu ls a++fu ls b:=by simp[fu]
theorem gP(ls:List Int)(a:Nat)(b:List Nat):fu ls (a ::b)=cF (cd ls a) (ln ls a).toNat++fu ls b:=by simp[fu]
def vF(ls:List Int)(ss:List Nat):Int:=(ss.map (ln ls)).sum
theorem ni{ls:List Int}(h:bY ls=true)(ss:List Nat):((fu ls ss).length:Int)=vF ls ss:=by
 induction ss with
 | nil=>rfl
 | cons a ss ih =>
  have:=(dZ h).2.1 a;rw[gP,List.length_append,dS];simp only[vF,List.map_cons,List.sum_cons]at ih ⊢;omega
theorem mH{ls:List Int}(h:bY ls=true)(ss:List Nat):0<=vF ls ss/\vF ls ss<=15*(ss.length:Int):=by
 induction ss with
 | nil=>simp[vF]
 | cons a ss ih =>
  have:=(dZ h).2.1 a;simp only[vF,List.map_cons,List.sum_cons,List.length_cons]at ih ⊢;omega
end Go.V
namespace Go.Proofs.YtlieaecnllkefaaGreat
open Go Go.V Go.RowKit
end Go.Proofs.YtlieaecnllkefaaGreat
/-! Numbers in few bytes: lists alone. Plain Lean; no program. -/
namespace Go.V
def bX(v:Nat):List Int:=if v<128 then [(v:Int)] else((v % 128+128:Nat):Int) ::bX (v / 128)
termination_by v
decreasing_by omega
theorem iT{v:Nat}(h:v<128):bX v=[(v:Int)]:=by unfold bX;rw[if_pos h]
theorem kG{v:Nat}(h:¬ v<128):bX v=((v % 128+128:Nat):Int) ::bX (v / 128):=by rw[bX,if_neg h]
theorem gm(v:Nat):∀ x∈bX v,0<=x/\x<=255:=by
 induction v using Nat.strongRecOn with
 | _ v ih =>
  by_cases h:v<128
  ·rw[iT h];intro x hx;have:x=(v:Int):=by simpa using hx
   omega
  ·rw[kG h];intro x hx;rcases List.mem_cons.1 hx with e | e
   ·omega
   ·exact ih _ (by omega) x e
theorem kF(v:Nat):0<(bX v).length:=by
 by_cases h:v<128
 ·rw[iT h];simp
 ·rw[kG h];simp
def fX(most:Int):List Int->Nat->Int->Int×Nat×Int
 | [],_,_=>(0,0,20)
 | c ::r,i,v=>if(i=9/\c>1)∨(i>0/\c=0) then(0,0,21) else
  if c≥128 then fX most r (i+1) (v+c % 128*2^(7*i)) else if v+c % 128*2^(7*i)>most then(0,0,22) else(v+c % 128*2^(7*i),i+1,0)
def cY(most:Int)(b:List Int):Int×Nat×Int:=fX most b 0 0
theorem BU(most:Int)(rest:List Int):∀(n i:Nat)(v:Int),(0<i->0<n)->n*2^(7*i)<2^64->v+n*2^(7*i)<=most->fX most (bX n++rest) i v=(v+n*2^(7*i),i+(bX n).length,0):=by
 intro n
 induction n using Nat.strongRecOn with
 | _ n ih =>
  intro i v FO Gy hm;have hp:0<2^(7*i):=Nat.two_pow_pos _;by_cases h:n<128
  ·rw[iT h];show fX most ((n:Int) ::rest) i v=_;unfold fX;have h9:¬ ((i=9/\(n:Int)>1)∨(i>0/\(n:Int)=0)):=by
    rintro(⟨e,e2⟩ | ⟨e,e2⟩)
    ·subst e;have:2*2^(7*9)<=n*2^(7*9):=Nat.mul_le_mul_right _ (by omega);omega
    ·have:=FO e;omega
   have L1:(n:Int) % 128=(n:Int):=by omega
   rw[if_neg h9,if_neg (by omega),L1,if_neg (by omega)];simp
  ·rw[kG h];show fX most (((n % 128+128:Nat):Int) ::(bX (n / 128)++rest)) i v=_;unfold fX;have h9:¬ ((i=9/\((n % 128+128:Nat):Int)>1)∨(i>0/\((n % 128+128:Nat):Int)=0)):=by
    rintro(⟨e,e2⟩ | ⟨e,e2⟩)
    ·subst e;have:128*2^(7*9)<=n*2^(7*9):=Nat.mul_le_mul_right _ (by omega);omega
    ·omega
   have L1:((n % 128+128:Nat):Int) % 128=((n % 128:Nat):Int):=by omega
   rw[if_neg h9,if_pos (by omega),L1];have e1:2^(7*(i+1))=128*2^(7*i):=by rw[show 7*(i+1)=7*i+7 by omega,Nat.pow_add];omega
   have e1':(2:Int)^(7*(i+1))=128*2^(7*i):=by rw[show 7*(i+1)=7*i+7 by omega,Int.pow_add];omega
   have e2:n / 128*(128*2^(7*i))+n % 128*2^(7*i)=n*2^(7*i):=by
    rw[← Nat.mul_assoc,← Nat.add_mul];congr 1;omega
   have e3:v+((n % 128:Nat):Int)*2^(7*i)+((n / 128:Nat):Int)*2^(7*(i+1))=v+(n:Int)*2^(7*i):=by
    rw[e1',← Int.mul_assoc,Int.add_assoc,← Int.add_mul];congr 2;omega
   rw[ih (n / 128) (by omega) (i+1) _ (fun _=>by omega) (by rw[e1];omega) (by rw[e3];exact hm),e3];simp;omega
theorem dW{most:Int}{n:Nat}(h:(n:Int)<=most)(PX:n<2^64)(rest:List Int):cY most (bX n++rest)=((n:Int),(bX n).length,0):=by
 have:=BU most rest n 0 0 (by omega) (by simpa using PX) (by simpa using h);simpa[cY]using this
theorem xJ (most:Int):∀(b:List Int)(i:Nat)(v:Int),(∀ x∈b,0<=x)->0<=v →
    ((fX most b i v).2.2=0/\i<(fX most b i v).2.1/\(fX most b i v).2.1<=i+b.length/\0<=(fX most b i v).1/\(fX most b i v).1<=most)∨((fX most b i v).2.2≠0/\(fX most b i v).2.1=0/\(fX most b i v).1=0)
  | [],i,v,_,_=>.inr ⟨by simp[fX],rfl,rfl⟩
  | c ::r,i,v,h,hv=>by
    have hc:=h c (by simp);have hm:0<=c % 128*2^(7*i):=Int.mul_nonneg (Int.emod_nonneg _ (by omega)) (Int.le_of_lt (ew _));unfold fX;split
    · exact .inr ⟨by simp,rfl,rfl⟩
    · split
      · rcases xJ most r (i+1) (v+c % 128*2^(7*i)) (fun x hx=>h x (by simp[hx])) (by omega)with⟨e1,e2,e3,e4⟩ | e
        · exact .inl ⟨e1,by omega,by simp;omega,e4⟩
        · exact .inr e
      · split
        · exact .inr ⟨by simp,rfl,rfl⟩
        · exact .inl ⟨rfl,by simp,by simp,by simp;omega,by simp;omega⟩
theorem fy{most:Int}{b:List Int}(h:∀ x∈b,0<=x):((cY most b).2.2=0/\0<(cY most b).2.1/\(cY most b).2.1<=b.length/\0<=(cY most b).1/\(cY most b).1<=most)∨((cY most b).2.2≠0/\(cY most b).2.1=0/\(cY most b).1=0):=by
 have:=xJ most b 0 0 h (by omega);simpa[cY]using this
end Go.V
/-! Numbers in few bytes, counts, bytes held against bytes: both texts. -/
namespace Go.Proofs.YtlieaecnllkefaaGreat
open Go Go.V Go.RowKit
abbrev kr(xs:List Nat):List Value:=xs.map fun x:Nat=>Value.int .u64 (x:Int)
theorem eP{w:World}{base:Nat}{A:OA}{n c:Nat}{xs:List Int}{x:Int}(ho:aE w base 5 1 A n c (bV xs))(hn:n<=2^39)(hb:base<=w.heap.size):
    ∃ (A':OA) (n' c':Nat) (w':World),Sem.run P (Builtin.append_ #[26,26] 26 #[.slice A n c,.slice (some ⟨w.heap.size,0,none⟩) 1 1]) (w.alloc (.cells #[.int .u8 x] 5))=.ok (.slice A' n' c') w' ∧
      aE w' base 5 1 A' n' c' (bV (xs++[x]))/\w.grownBy w' (Value.slice A n c).ownBlock/\n'=n+1:=by
  have g:=World.grownBy_alloc w (.cells #[.int .u8 x] 5) none;have ro:=de w #[.int .u8 x] 5;obtain⟨A',n',c',w',h1,h2,h3,h4,_⟩:=(ho.kept g).appends (ty:=26) nj (by omega) (a:=⟨w.heap.size,0,none⟩) (m:=1) (cc:=1) (us:=bV [x]) rfl (fun j u hj=>by obtain⟨b,q1,q2⟩:=ro j u hj;cases q1;exact q2) (fun u hu=>by simp at hu;rw[hu];rfl) (by omega) (Nat.le_trans hb g.size);exact⟨A',n',c',w',h1,by simpa using h2,aA (bF g) h4,h3⟩
theorem aV{w:World}{base:Nat}{A B:OA}{n c m d:Nat}{xs ys:List Int}(ho:aE w base 5 1 A n c (bV xs))(hB:aZ w B (bV ys))(hm:m=ys.length)(hd:B=none->d=0)(hn:n+m<=2^39)(hb:base<=w.heap.size):
    ∃ (A':OA) (n' c':Nat) (w':World),Sem.run P (Builtin.append_ #[26,26] 26 #[.slice A n c,.slice B m d]) w=.ok (.slice A' n' c') w' ∧
      aE w' base 5 1 A' n' c' (bV (xs++ys))/\w.grownBy w' (Value.slice A n c).ownBlock/\n'=n+m:=by
  cases B with
  | none =>
    have:ys=[]:=by
      cases ys with
      | nil=>rfl
      | cons x l=>obtain⟨a,e,_⟩:=hB 0 _ rfl;cases e
    subst this;have Rh:=hd rfl;subst Rh;have Kn:m=0:=by simpa using hm
    subst Kn;exact⟨A,n,c,w,ho.appends_nil nj,by simpa using ho,aC _ _,rfl⟩
  | some a =>
    obtain⟨A',n',c',w',h1,h2,h3,h4,_⟩:=ho.appends (ty:=26) nj (by omega) (a:=a) (m:=m) (cc:=d) (us:=bV ys) (by simp[hm]) (fun j u hj=>by obtain⟨b,q1,q2⟩:=hB j u hj;cases q1;exact q2) (fun u hu=>by obtain⟨x,_,rfl⟩:=List.mem_map.1 hu;rfl) (by omega) hb;exact⟨A',n',c',w',h1,by simpa using h2,h4,h3⟩
theorem or128:∀ x:Nat,x<256->x ||| 128=x % 128+128:=by decide +kernel
theorem wh(v:Nat):dE .or .u8 (((v % 256:Nat)):Int) 128=((v % 128+128:Nat):Int):=by
 have e1:(BitVec.ofInt 8 ((v % 256:Nat):Int)).toNat=v % 256:=dj (by omega);have e2:(BitVec.ofInt 8 ((128:Nat):Int)).toNat=128:=dj (by omega);show IntKind.u8.wrap (((BitVec.ofInt 8 ((v % 256:Nat):Int) ||| BitVec.ofInt 8 ((128:Nat):Int)).toNat:Nat):Int)=_;rw[BitVec.toNat_or,e1,e2,or128 _ (by omega),show v % 256 % 128=v % 128 by omega];exact eW (k:=.u8) (show 0<=_/\_<=(255:Int) by omega)
theorem DY(v:Nat):IntKind.u8.wrap (v:Int)=((v % 256:Nat):Int):=by
 show((v:Int) % 2^8)=_;omega
theorem AO(v:Nat)(h:v<2^64):dE .and .u64 (v:Int) 127=((v % 128:Nat):Int):=by
 have e1:(BitVec.ofInt 64 (v:Int)).toNat=v:=dj h;have e2:(BitVec.ofInt 64 ((127:Nat):Int)).toNat=127:=dj (by omega);show IntKind.u64.wrap (((BitVec.ofInt 64 (v:Int) &&& BitVec.ofInt 64 ((127:Nat):Int)).toNat:Nat):Int)=_;rw[BitVec.toNat_and,e1,e2,show(127:Nat)=2^7-1 from rfl,Nat.and_two_pow_sub_one_eq_mod];exact eW (k:=.u64) (show 0<=_/\_<=(18446744073709551615:Int) by omega)
theorem wn{v:Int}(h:0<=v/\v<=255):dE .and .u8 v 127=v % 128:=by
 obtain⟨n,rfl⟩:∃ n:Nat,v=n:=⟨v.toNat,by omega⟩;have e1:(BitVec.ofInt 8 (n:Int)).toNat=n:=dj (by omega);have e2:(BitVec.ofInt 8 ((127:Nat):Int)).toNat=127:=dj (by omega);show IntKind.u8.wrap (((BitVec.ofInt 8 (n:Int) &&& BitVec.ofInt 8 ((127:Nat):Int)).toNat:Nat):Int)=_;rw[BitVec.toNat_and,e1,e2,show(127:Nat)=2^7-1 from rfl,Nat.and_two_pow_sub_one_eq_mod];rw[eW (k:=.u8) (show 0<=_/\_<=(255:Int) by omega)];omega
theorem sP{x c:Int}{j:Nat}(h0:0<=x)(hx:x<2^j)(hc:0<=c)(h:x+c*2^j<18446744073709551616):dE .or .u64 x (c*2^j)=x+c*2^j:=by
 obtain⟨n,rfl⟩:∃ n:Nat,x=n:=⟨x.toNat,by omega⟩;obtain⟨m,rfl⟩:∃ n:Nat,c=n:=⟨c.toNat,by omega⟩;have ep:((2^j:Nat):Int)=2^j:=by simp
 have em:((m*2^j:Nat):Int)=(m:Int)*2^j:=by rw[Int.natCast_mul,ep]
 rw[← em]at h ⊢;have e1:(BitVec.ofInt 64 (n:Int)).toNat=n:=dj (by omega);have e2:(BitVec.ofInt 64 ((m*2^j:Nat):Int)).toNat=m*2^j:=dj (by omega);show IntKind.u64.wrap (((BitVec.ofInt 64 (n:Int) ||| BitVec.ofInt 64 ((m*2^j:Nat):Int)).toNat:Nat):Int)=_;rw[BitVec.toNat_or,e1,e2,wP (by omega)];rw[eW (k:=.u64) (show 0<=_/\_<=(18446744073709551615:Int) by omega)];omega
def aX(l:List Nat):List Int:=l.flatMap bX
theorem tQ(v:Nat)(k:Nat):v<2^(7*k)->0<k->(bX v).length<=k:=by
 induction k generalizing v with
 | zero=>intro _ h;omega
 | succ k ih =>
  intro h _;by_cases hv:v<128
  ·rw[iT hv];simp
  ·rw[kG hv,List.length_cons];have:0<k:=by
    rcases Nat.eq_zero_or_pos k with e | e
    ·subst e;simp at h;omega
    ·exact e
   have:=ih (v / 128) (by
    rw[show 7*(k+1)=7*k+7 by omega,Nat.pow_add]at h;exact Nat.div_lt_of_lt_mul (by omega)) this
   omega
theorem cK{v:Nat}(h:v<2^64):(bX v).length<=10:=tQ v 10 (Nat.lt_of_lt_of_le h (by decide)) (by omega)
theorem fO{l:List Nat}(h:∀ x∈l,x<2^64):(aX l).length<=10*l.length:=by
 induction l with
 | nil=>simp[aX]
 | cons x l ih =>
  have h1:=cK (h x (by simp));have h2:=ih (fun y hy=>h y (by simp[hy]));simp only[aX,List.flatMap_cons,List.length_append,List.length_cons]at h2 ⊢;omega
theorem iO {w:World} {A:OA} {n c:Nat} {l:List Nat} (hr:aZ w A (kr l)) (hn:n=l.length) (hb:∀ x∈l,x<2^64) (hl:n<=2^20) :
    Calls P 70 #[.slice A n c] w fun ev w'=>∃(A':OA)(n' c':Nat),ev=.returned (.slice A' n' c')/\aE w' w.heap.size 5 1 A' n' c' (bV (aX l))/\w.grownBy w' none:=by
  apply vc70;dsimp only[VC70,Br,Rd,Ix,Ap,nb]
  try simp only[aF]
  refine⟨fun m Ao no co i w1=>∃ j:Nat,i=(j:Int)/\j<=l.length/\m=l.length-j/\aE w1 w.heap.size 5 1 Ao no co (bV (aX (l.take j)))/\w.grownBy w1 none,⟨_,0,rfl,by omega,rfl,aE.nil _ _ _ _,aC _ _⟩,?_⟩;rintro m Ao no co i w1 ⟨j,rfl,hj,rfl,ho,hg⟩;have tj:(j:Int).toNat=j:=by omega
  rw[tj];refine⟨fun FE=>?_,fun FJ=>?_⟩
  · have lj:j<l.length:=by omega
    obtain⟨a,FU,FP⟩:=(hr.kept_none hg) j (.int .u64 (l[j]:Int)) (by simp[lj]);have hx:=hb _ (List.getElem_mem lj);have JM:=fO (l:=l.take j) (fun x hx=>hb x (List.mem_of_mem_take hx));have IQ:(l.take j).length=j:=by simp;omega
    have HR:=cK hx;refine⟨a,FU,by omega,by omega,_,FP,?_⟩;refine⟨fun m Ao no co v w2=>∃(u:Nat)(bs:List Int),v=(u:Int)/\m=u/\u<2^64/\bs++bX u=bX l[j]/\aE w2 w.heap.size 5 1 Ao no co (bV (aX (l.take j)++bs))/\w.grownBy w2 none,⟨_,l[j],[],rfl,rfl,hx,rfl,by simpa using ho,hg⟩,?_⟩;rintro m Ao no co v w2 ⟨u,bs,rfl,MY,hu,HJ,Gt,FN⟩;subst MY;have IC:bs.length<=10:=by
      have:=congrArg List.length HJ;rw[List.length_append]at this;omega
    have GK:no=(aX (l.take j)++bs).length:=by have:=Gt.cases.1;rw[List.length_map]at this;omega
    have JQ:no<=2^39:=by rw[GK,List.length_append];omega
    refine⟨fun FJ=>?_,fun Gn=>?_⟩
    · have I6:¬ m<128:=by omega
      rw[DY,wh];obtain⟨A3,n3,c3,w3,e1,e2,e3,_⟩:=eP (x:=((m % 128+128:Nat):Int)) Gt JQ FN.size;refine⟨A3,n3,c3,w3,e1,by omega,m / 128,by omega,m / 128,bs++[((m % 128+128:Nat):Int)],by omega,rfl,by omega,?_,by simpa using e2,aN FN e3 Gt.block_ge⟩;rw[← HJ,kG I6];simp
    · have I6:m<128:=by omega
      obtain⟨A3,n3,c3,w3,e1,e2,e3,_⟩:=eP (x:=(m:Int)) Gt JQ FN.size;refine⟨by omega,A3,n3,c3,w3,e1,by omega,l.length-(j+1),by omega,j+1,by omega,by omega,rfl,?_,aN FN e3 Gt.block_ge⟩;have:aX (l.take (j+1))=aX (l.take j)++bs++[(m:Int)]:=by
        rw[iT I6]at HJ;rw[List.take_succ_eq_append_getElem lj,aX,List.flatMap_append,List.append_assoc,HJ];simp[aX]
      rw[this];exact e2
  · have:j=l.length:=by omega
    subst this;rw[List.take_length]at ho;exact⟨_,_,_,rfl,ho,hg⟩
theorem j4 {w:World} {A:OA} {n c:Nat} {l:List Nat} (hr:aZ w A (kr l)) (hn:n=l.length) (hb:∀ x∈l,x<2^64) (hl:n<=2^20) :
    Calls P 80 #[.slice A n c] w fun ev w'=>∃(A':OA)(n' c':Nat),ev=.returned (.slice A' n' c')/\aE w' w.heap.size 5 1 A' n' c' (bV (aX l))/\w.grownBy w' none:=by
  apply vc80;dsimp only[VC80,Br,Rd,Ix,Ap,nb]
  try simp only[aF]
  refine⟨fun m Ao no co i w1=>∃ j:Nat,i=(j:Int)/\j<=l.length/\m=l.length-j/\aE w1 w.heap.size 5 1 Ao no co (bV (aX (l.take j)))/\w.grownBy w1 none,⟨_,0,rfl,by omega,rfl,aE.nil _ _ _ _,aC _ _⟩,?_⟩;rintro m Ao no co i w1 ⟨j,rfl,hj,rfl,ho,hg⟩;have tj:(j:Int).toNat=j:=by omega
  rw[tj];refine⟨fun FE=>?_,fun FJ=>?_⟩
  · have lj:j<l.length:=by omega
    obtain⟨a,FU,FP⟩:=(hr.kept_none hg) j (.int .u64 (l[j]:Int)) (by simp[lj]);have hx:=hb _ (List.getElem_mem lj);have JM:=fO (l:=l.take j) (fun x hx=>hb x (List.mem_of_mem_take hx));have IQ:(l.take j).length=j:=by simp;omega
    have HR:=cK hx;refine⟨a,FU,by omega,by omega,_,FP,?_⟩;refine⟨fun m Ao no co v w2=>∃(u:Nat)(bs:List Int),v=(u:Int)/\m=u/\u<2^64/\bs++bX u=bX l[j]/\aE w2 w.heap.size 5 1 Ao no co (bV (aX (l.take j)++bs))/\w.grownBy w2 none,⟨_,l[j],[],rfl,rfl,hx,rfl,by simpa using ho,hg⟩,?_⟩;rintro m Ao no co v w2 ⟨u,bs,rfl,MY,hu,HJ,Gt,FN⟩;subst MY;have IC:bs.length<=10:=by
      have:=congrArg List.length HJ;rw[List.length_append]at this;omega
    have GK:no=(aX (l.take j)++bs).length:=by have:=Gt.cases.1;rw[List.length_map]at this;omega
    have JQ:no<=2^39:=by rw[GK,List.length_append];omega
    refine⟨fun FJ=>?_,fun Gn=>?_⟩
    · have I6:¬ m<128:=by omega
      rw[AO m hu];have Tf:=wh (m % 128);rw[show m % 128 % 256=m % 128 by omega,show m % 128 % 128=m % 128 by omega]at Tf;rw[Tf];obtain⟨A3,n3,c3,w3,e1,e2,e3,_⟩:=eP (x:=((m % 128+128:Nat):Int)) Gt JQ FN.size;refine⟨by omega,A3,n3,c3,w3,e1,by omega,m / 128,by omega,m / 128,bs++[((m % 128+128:Nat):Int)],by omega,rfl,by omega,?_,by simpa using e2,aN FN e3 Gt.block_ge⟩;rw[← HJ,kG I6];simp
    · have I6:m<128:=by omega
      obtain⟨A3,n3,c3,w3,e1,e2,e3,_⟩:=eP (x:=(m:Int)) Gt JQ FN.size;refine⟨by omega,A3,n3,c3,w3,e1,by omega,l.length-(j+1),by omega,j+1,by omega,by omega,rfl,?_,aN FN e3 Gt.block_ge⟩;have:aX (l.take (j+1))=aX (l.take j)++bs++[(m:Int)]:=by
        rw[iT I6]at HJ;rw[List.take_succ_eq_append_getElem lj,aX,List.flatMap_append,List.append_assoc,HJ];simp[aX]
      rw[this];exact e2
  · have:j=l.length:=by omega
    subst this;rw[List.take_length]at ho;exact⟨_,_,_,rfl,ho,hg⟩
abbrev AX(t:Int×Nat×Int):Value:=.tuple #[.int .u64 t.1,.int .i64 (t.2.1:Int),.int .i64 t.2.2]
theorem zI{i:Nat}(h:i<=9):(0:Int)<2^(7*i)/\(2:Int)^(7*i)<=2^63:=by
 have e1:((2^(7*i):Nat):Int)=2^(7*i):=by simp
 have:=Nat.pow_le_pow_right (n:=2) (by omega) (show 7*i<=63 by omega);have:=Nat.two_pow_pos (7*i);omega
theorem E6{v c:Int}{i:Nat}(hi:i<=9)(hc:0<=c/\c<=255)(h9:i=9->c<=1)(hv:0<=v/\v<2^(7*i)):dE .or .u64 v (c % 128*2^(7*i))=v+c % 128*2^(7*i)/\0<=c % 128*2^(7*i)/\c % 128*2^(7*i)<=18446744073709551615/\v+c % 128*2^(7*i)<2^(7*(i+1)):=by
 obtain⟨p1,p2⟩:=zI hi;have hm:0<=c % 128/\c % 128<=127:=by omega
 have h0:0<=c % 128*2^(7*i):=Int.mul_nonneg hm.1 (Int.le_of_lt p1);have FW:c % 128*2^(7*i)<=127*2^(7*i):=Int.mul_le_mul_of_nonneg_right hm.2 (Int.le_of_lt p1);have e1:(2:Int)^(7*(i+1))=128*2^(7*i):=by rw[show 7*(i+1)=7*i+7 by omega,Int.pow_add];omega
 have hb:v+c % 128*2^(7*i)<18446744073709551616:=by
  by_cases h:i=9
  ·subst h;have:=h9 rfl;have IS:c % 128<=1:=by omega
   have:c % 128*2^(7*9)<=1*2^(7*9):=Int.mul_le_mul_of_nonneg_right IS (by decide);have e:(2:Int)^(7*9)=9223372036854775808:=by decide
   rw[e]at this hv ⊢;omega
  ·have h8:i<=8:=by omega
   have e2:((2^(7*i):Nat):Int)=2^(7*i):=by simp
   have:=Nat.pow_le_pow_right (n:=2) (by omega) (show 7*i<=56 by omega);omega
 exact⟨sP hv.1 hv.2 hm.1 hb,h0,by omega,by rw[e1];omega⟩
theorem mB {w:World} {A:OA} {n c:Nat} {b:List Int} {most:Int} (hr:aZ w A (bV b)) (hn:n=b.length) (hb:∀ x∈b,0<=x/\x<=255) (hl:n<=2^40) :
    Calls P 120 #[.slice A n c,.int .u64 most] w fun ev w'=>ev=.returned (AX (cY most b))/\w.grownBy w' none:=by
  apply vc120;dsimp only[VC120,rt,Br,Bb,Rd,Ix,iq]
  try simp only[aF]
  refine⟨fun m v i w1=>∃ j:Nat,i=(j:Int)/\j<=b.length/\m=b.length-j/\j<=9/\0<=v/\v<2^(7*j)/\cY most b=fX most (b.drop j) j v/\w.grownBy w1 none,⟨_,0,rfl,by omega,rfl,by omega,by omega,by simp,rfl,aC _ _⟩,?_⟩;rintro m v i w1 ⟨j,rfl,hj,rfl,QS,Jz,Io,FM,hg⟩;have tj:(j:Int).toNat=j:=by omega
  have t7:(7*(j:Int)).toNat=7*j:=by omega
  have m64:min (7*j) 64=7*j:=by omega
  rw[tj,t7,m64];refine⟨fun FE=>?_,fun FJ=>?_⟩
  · have lj:j<b.length:=by omega
    obtain⟨a,FU,FP⟩:=(hr.kept_none hg) j (.int .u8 b[j]) (by simp[lj]);have hc:=hb _ (List.getElem_mem lj);rw[List.drop_eq_getElem_cons lj]at FM;rw[fX]at FM;refine⟨a,FU,by omega,by omega,_,FP,fun q w2=>w2=w1/\(q=true↔(j=9/\b[j]>1)∨(j>0/\b[j]=0)),⟨fun h9=>⟨fun h1=>⟨rfl,by simp;omega⟩,fun h1=>⟨fun h0=>⟨rfl,by simp;omega⟩,fun h0=>⟨rfl,by simp;omega⟩⟩⟩,fun h9=>⟨fun h0=>⟨rfl,by simp;omega⟩,fun h0=>⟨rfl,by simp;omega⟩⟩⟩,?_⟩;rintro q w2 ⟨rfl,hq⟩;refine⟨fun h=>⟨?_,hg⟩,fun h=>?_⟩
    · rw[if_pos (hq.1 h)]at FM;rw[FM];rfl
    · have PD:¬ ((j=9/\b[j]>1)∨(j>0/\b[j]=0)):=fun e=>by rw[hq.2 e]at h;cases h
      rw[if_neg PD]at FM;rw[wn hc];obtain⟨s1,s2,s3,s4⟩:=E6 QS hc (fun e=>by omega) ⟨Jz,Io⟩;rw[s1];refine⟨by omega,by omega,⟨by omega,by omega,by omega⟩,fun FJ=>?_,fun Gn=>⟨fun hm=>⟨?_,hg⟩,fun hm=>⟨by omega,?_,hg⟩⟩⟩
      · rw[if_pos FJ]at FM;exact⟨by omega,b.length-(j+1),by omega,j+1,by omega,by omega,rfl,by omega,by omega,s4,FM,hg⟩
      · rw[if_neg Gn,if_pos hm]at FM;rw[FM];rfl
      · rw[if_neg Gn,if_neg hm]at FM;rw[FM];rfl
  · have:j=b.length:=by omega
    subst this;rw[List.drop_length]at FM;rw[FM];exact⟨rfl,hg⟩
theorem fL {w:World} {A:OA} {n c:Nat} {b:List Int} {most:Int} (hr:aZ w A (bV b)) (hn:n=b.length) (hb:∀ x∈b,0<=x/\x<=255) (hl:n<=2^40) :
    Calls P 51 #[.slice A n c,.int .u64 most] w fun ev w'=>ev=.returned (AX (cY most b))/\w.grownBy w' none:=by
  apply vc51;dsimp only[VC51,rt,Br,Bb,Rd,Ix,iq]
  try simp only[aF]
  refine⟨fun m v i w1=>∃ j:Nat,i=(j:Int)/\j<=b.length/\m=b.length-j/\j<=9/\0<=v/\v<2^(7*j)/\cY most b=fX most (b.drop j) j v/\w.grownBy w1 none,⟨_,0,rfl,by omega,rfl,by omega,by omega,by simp,rfl,aC _ _⟩,?_⟩;rintro m v i w1 ⟨j,rfl,hj,rfl,QS,Jz,Io,FM,hg⟩;have tj:(j:Int).toNat=j:=by omega
  have t7:(7*(j:Int)).toNat=7*j:=by omega
  have m64:min (7*j) 64=7*j:=by omega
  rw[tj,t7,m64];refine⟨fun FE=>?_,fun FJ=>?_⟩
  · have lj :j<b.length:=by omega
    obtain⟨a,FU,FP⟩:=(hr.kept_none hg) j (.int .u8 b[j]) (by simp[lj]);have hc:=hb _ (List.getElem_mem lj);rw[List.drop_eq_getElem_cons lj]at FM;rw[fX]at FM;refine⟨fun q w2=>w2=w1/\(q=true↔j=9/\b[j]>1),⟨fun h9=>⟨a,FU,by omega,by omega,_,FP,rfl,by simp;omega⟩,fun h9=>⟨rfl,by simp;omega⟩⟩,?_⟩;rintro q w2 ⟨rfl,hq⟩;refine⟨fun h=>⟨?_,hg⟩,fun h=>?_⟩
    · rw[if_pos (.inl (hq.1 h))]at FM;rw[FM];rfl
    · have PD:¬ (j=9/\b[j]>1):=fun e=>by rw[hq.2 e]at h;cases h
      obtain⟨s1,s2,s3,s4⟩:=E6 QS hc (fun e=>by omega) ⟨Jz,Io⟩;refine⟨a,FU,by omega,by omega,_,FP,?_⟩;rw[wn hc,s1];refine⟨by omega,by omega,⟨by omega,by omega,by omega⟩,a,FU,by omega,by omega,_,FP,fun Gn=>?_,fun FJ=>?_⟩
      · refine⟨fun q w3=>w3=w2/\(q=true↔j>0/\b[j]=0),⟨a,FU,by omega,by omega,_,FP,fun h0=>⟨rfl,by simp;omega⟩,fun h0=>⟨rfl,by simp;omega⟩⟩,?_⟩;rintro q2 w3 ⟨rfl,KB⟩;refine⟨fun h=>⟨?_,hg⟩,fun h=>?_⟩
        · rw[if_pos (.inr (KB.1 h))]at FM;rw[FM];rfl
        · have Hp:¬ (j>0/\b[j]=0):=fun e=>by rw[KB.2 e]at h;cases h
          rw[if_neg (by rintro(e | e);exact PD e;exact Hp e),if_neg (by omega)]at FM;refine⟨fun hm=>⟨?_,hg⟩,fun hm=>⟨by omega,?_,hg⟩⟩
          · rw[if_pos hm]at FM;rw[FM];rfl
          · rw[if_neg hm]at FM;rw[FM];rfl
      · rw[if_neg (by rintro(e | e);exact PD e;omega),if_pos (by omega)]at FM;exact⟨by omega,b.length-(j+1),by omega,j+1,by omega,by omega,rfl,by omega,by omega,s4,FM,hg⟩
  · have:j=b.length:=by omega
    subst this;rw[List.drop_length]at FM;rw[FM];exact⟨rfl,hg⟩
theorem nM{zs:List Int}{k:Nat}(h:k<zs.length):(aS zs)[k]?=some (.int .i64 (zs.getD k 0)):=by
 simp[List.getD_eq_getElem?_getD,h]
theorem pS(zs:List Int)(k:Nat)(v:Int):(aS zs).set k (.int .i64 v)=aS (zs.set k v):=by simp[List.map_set]
def pz(b:List Int):List Int:=eo (b.map Int.toNat) (List.replicate 256 0)
theorem yY(b:List Int):(pz b).length=256:=by rw[pz,dB];simp
theorem vq{w:World}{A:OA}{n c:Nat}{b:List Int}(hr:aZ w A (bV b))(hn:n=b.length)(hb:∀ x∈b,0<=x/\x<=255)(hl:n<=2^40):
    Calls P 111 #[.slice A n c] w fun ev w'=>∃(A':OA)(n' c':Nat),ev=.returned (.slice A' n' c')/\cP w' w.heap.size 3 A' n' c' (aS (pz b))/\w.grownBy w' none:=by
  apply vc111;dsimp only[VC111,Wt,Br,Rd,Ix,iq]
  try simp only[aF]
  obtain⟨w1,Hm,FF,g1⟩:=il (P:=P) (w:=w) iD (by omega) (m:=256) (by omega);refine⟨_,_,_,w1,Hm,?_⟩;have hA:∀ a,A=some a->b=[]∨a.block<w.heap.size:=fun a ha=>by
    by_cases e:b=[]
    · exact .inl e
    · obtain⟨q,e1,e2⟩:=hr.blk (by simpa using e);rw[ha]at e1;cases e1;exact .inr e2
  refine⟨fun m i w2=>∃ j:Nat,i=(j:Int)/\j<=b.length/\m=b.length-j/\cV w2 w.heap.size 3 256 (aS (eo ((b.take j).map Int.toNat) (List.replicate 256 0)))/\w1.grownBy w2 (some w.heap.size),
    ⟨_,0,rfl,by omega,rfl,by simpa[eo,aS]using FF,aC _ _⟩,?_⟩
  rintro m i w2 ⟨j,rfl,hj,rfl,ho,hg⟩;have tj:(j:Int).toNat=j:=by omega
  rw[tj];have P0:(eo ((b.take j).map Int.toNat) (List.replicate 256 0)).length=256:=by rw[dB];simp
  refine⟨fun FE=>?_,fun FJ=>?_⟩
  · have lj:j<b.length:=by omega
    have hc:=hb _ (List.getElem_mem lj);have rowb:aZ w2 A (bV b):=(hr.kept_none g1).kept hg (fun a ha=>by
      rcases hA a ha with e | e
      · rw[e]at lj;simp at lj
      · simp;omega)
    obtain⟨a,FU,FP⟩:=rowb j (.int .u8 b[j]) (by simp[lj]);have hs:b[j].toNat<256:=by omega
    have FK:=ho.cell (j:=b[j].toNat) (u:=.int .i64 ((eo ((b.take j).map Int.toNat) (List.replicate 256 0)).getD b[j].toNat 0)) (nM (by omega));have Ge:=gx ((b.take j).map Int.toNat) (xs:=List.replicate 256 0) (B:=0) (by simp) (by omega);have hv:=Ge ((eo ((b.take j).map Int.toNat) (List.replicate 256 0)).getD b[j].toNat 0) (by
      rw[List.getD_eq_getElem?_getD,List.getElem?_eq_getElem (by omega)];exact List.getElem_mem _)
    have JA:((b.take j).map Int.toNat).length=j:=by simp;omega
    refine⟨a,FU,by omega,by omega,_,FP,_,rfl,by omega,by omega,_,FK,by omega,_,rfl,by omega,by omega,⟨_,FK⟩,ho.notFrozen (aK _ _),by omega,b.length-(j+1),by omega,j+1,by omega,by omega,rfl,?_,bD hg (aK _ _) _⟩;rw[List.take_succ_eq_append_getElem lj,List.map_append,gU];have Gh:=ho.set (j:=b[j].toNat) (by rw[List.length_map];omega) (.int .i64 ((eo ((b.take j).map Int.toNat) (List.replicate 256 0)).getD b[j].toNat 0+1));rw[pS]at Gh;exact Gh
  · have:j=b.length:=by omega
    subst this;rw[List.take_length]at ho;have h5:=ho.ownsRow (Nat.le_refl _) (by simp only[maxLen];omega);have Lo:(aS (eo (b.map Int.toNat) (List.replicate 256 0))).length=256:=by simp[aS,dB]
    rw[Lo]at h5;exact⟨_,_,_,rfl,h5,aN g1 hg (by intro k hk;cases hk;omega)⟩
theorem tJ{w:World}{A:OA}{n c:Nat}{b:List Int}(hr:aZ w A (bV b))(hn:n=b.length)(hb:∀ x∈b,0<=x/\x<=255)(hl:n<=2^40):
    Calls P 118 #[.slice A n c] w fun ev w'=>∃(A':OA)(n' c':Nat),ev=.returned (.slice A' n' c')/\cP w' w.heap.size 3 A' n' c' (aS (pz b))/\w.grownBy w' none:=by
  apply vc118;dsimp only[VC118,Wt,Br,Rd,Ix,iq]
  try simp only[aF]
  obtain⟨w1,Hm,FF,g1⟩:=il (P:=P) (w:=w) iD (by omega) (m:=256) (by omega);refine⟨_,_,_,w1,Hm,?_⟩;have hA:∀ a,A=some a->b=[]∨a.block<w.heap.size:=fun a ha=>by
    by_cases e:b=[]
    · exact .inl e
    · obtain⟨q,e1,e2⟩:=hr.blk (by simpa using e);rw[ha]at e1;cases e1;exact .inr e2
  refine⟨fun m i w2=>∃ j:Nat,i=(j:Int)/\j<=b.length/\m=b.length-j/\cV w2 w.heap.size 3 256 (aS (eo ((b.take j).map Int.toNat) (List.replicate 256 0)))/\w1.grownBy w2 (some w.heap.size),
    ⟨_,0,rfl,by omega,rfl,by simpa[eo,aS]using FF,aC _ _⟩,?_⟩
  rintro m i w2 ⟨j,rfl,hj,rfl,ho,hg⟩;have tj:(j:Int).toNat=j:=by omega
  rw[tj];have P0:(eo ((b.take j).map Int.toNat) (List.replicate 256 0)).length=256:=by rw[dB];simp
  refine⟨fun FE=>?_,fun FJ=>?_⟩
  · have lj:j<b.length:=by omega
    have hc:=hb _ (List.getElem_mem lj);have rowb:aZ w2 A (bV b):=(hr.kept_none g1).kept hg (fun a ha=>by
      rcases hA a ha with e | e
      · rw[e]at lj;simp at lj
      · simp;omega)
    obtain⟨a,FU,FP⟩:=rowb j (.int .u8 b[j]) (by simp[lj]);have hs:b[j].toNat<256:=by omega
    have FK:=ho.cell (j:=b[j].toNat) (u:=.int .i64 ((eo ((b.take j).map Int.toNat) (List.replicate 256 0)).getD b[j].toNat 0)) (nM (by omega));have Ge:=gx ((b.take j).map Int.toNat) (xs:=List.replicate 256 0) (B:=0) (by simp) (by omega);have hv:=Ge ((eo ((b.take j).map Int.toNat) (List.replicate 256 0)).getD b[j].toNat 0) (by
      rw[List.getD_eq_getElem?_getD,List.getElem?_eq_getElem (by omega)];exact List.getElem_mem _)
    have JA:((b.take j).map Int.toNat).length=j:=by simp;omega
    refine⟨a,FU,by omega,by omega,_,FP,_,rfl,by omega,by omega,_,FK,by omega,_,rfl,by omega,by omega,⟨_,FK⟩,ho.notFrozen (aK _ _),by omega,b.length-(j+1),by omega,j+1,by omega,by omega,rfl,?_,bD hg (aK _ _) _⟩;rw[List.take_succ_eq_append_getElem lj,List.map_append,gU];have Gh:=ho.set (j:=b[j].toNat) (by rw[List.length_map];omega) (.int .i64 ((eo ((b.take j).map Int.toNat) (List.replicate 256 0)).getD b[j].toNat 0+1));rw[pS]at Gh;exact Gh
  · have:j=b.length:=by omega
    subst this;rw[List.take_length]at ho;have h5:=ho.ownsRow (Nat.le_refl _) (by simp only[maxLen];omega);have Lo:(aS (eo (b.map Int.toNat) (List.replicate 256 0))).length=256:=by simp[aS,dB]
    rw[Lo]at h5;exact⟨_,_,_,rfl,h5,aN g1 hg (by intro k hk;cases hk;omega)⟩
theorem jk{w:World}{A B:OA}{n c m d:Nat}{a b:List Int}(hA:aZ w A (bV a))(hn:n=a.length)(hB:aZ w B (bV b))(hm:m=b.length)(ha:∀ x∈a,0<=x/\x<=255)(hb:∀ x∈b,0<=x/\x<=255):
    Calls P 50 #[.slice A n c,.slice B m d] w fun ev w'=>ev=.returned (.bool (decide (a=b)))/\w'=w:=by
  apply vc50;dsimp only[VC50,Eg,Cv];refine⟨_,dg hA hn,_,dg hB hm,_,fun w=>CZ _ _ _ _ w,?_,rfl⟩;have:decide (qZ a=qZ b)=decide (a=b):=by
    rw[decide_eq_decide];exact⟨vE ha hb,fun h=>by rw[h]⟩
  rw[this]
end Go.Proofs.YtlieaecnllkefaaGreat
/-! Bytes in fewer ones: lists alone. -/
namespace Go.Proofs.YtlieaecnllkefaaGreat
open Go Go.V Go.RowKit
abbrev aQ(b:List Int):Prop:=∀ x∈b,0<=x/\x<=255
abbrev er(b:List Int):List Nat:=b.map Int.toNat
def j7(b:List Int):List Int:=dv (pz b) 15
def dt:List Int->Nat->Nat->List Int
 | [],_,_=>[]
 | x ::l,s,nx=>if 0<x then bX (s-nx)++(bX x.toNat++dt l (s+1) (s+1)) else dt l (s+1) nx
def cy(b:List Int):List Int:=if b=[] then bX 0 else bX b.length++(bX (cH (j7 b))++(dt (j7 b) 0 0++dM (fu (j7 b) (er b))))
theorem Fs:cv 15=15:=by decide
theorem DA(b:List Int){s:Nat}(hs:s<256):(pz b).getD s 0=((er b).count s:Int):=by
 rw[pz,uT _ _ _ (by simpa using hs)];have:(List.replicate 256 (0:Int)).getD s 0=0:=by
  rw[List.getD_eq_getElem?_getD,List.getElem?_replicate];split <;>rfl
 simp only[er];omega
theorem uA(p:Nat->Bool):∀ n:Nat,(((List.range n).filter p).length:Int)=aR n (fun s=>if p s=true then 1 else 0)
 | 0=>by simp[aR]
 | n+1=>by
  rw[List.range_succ,List.filter_append,List.length_append];have:=uA p n;simp only[aR];by_cases h:p n=true
  ·simp[h];omega
  ·simp[h];omega
theorem zL{ls xs:List Int}(hl:ls.length=xs.length)(h:∀ s,s<xs.length->(0<ln ls s↔0<xs.getD s 0)):(jp ls).length=(aL xs).length:=by
 have h1:=uA (fun s=>decide (0<ln ls s)) ls.length;have h2:=kb xs;have h3:aR ls.length (fun s=>if decide (0<ln ls s)=true then(1:Int) else 0)=PS xs (fun _=>1):=by
  unfold PS;rw[hl];apply bP;intro s hs;have:=h s hs;by_cases e:0<ln ls s
  ·rw[if_pos (by simpa using e),if_pos (this.1 e)]
  ·have e2:¬ 0<xs.getD s 0:=fun q=>e (this.2 q);simp only[e,decide_false,if_neg e2,Bool.false_eq_true,if_false]
 show(((List.range ls.length).filter fun s=>decide (0<ln ls s)).length)=_;omega
theorem Cw{xs:List Int}{s:Nat}(hs:s<xs.length)(hp:0<xs.getD s 0):1<=(aL xs).length:=by
 have h2:=kb xs;have h3:=gy (fun _=>(1:Int)) hs;have h5:aR xs.length (fun j=>if j=s then(1:Int) else 0)<=PS xs (fun _=>1):=by
  apply jd;intro i hi;by_cases e1:i=s
  ·subst e1;simp only[hp,if_true];omega
  ·simp only[e1,if_false];split <;>omega
 rw[h3]at h5;omega
theorem zX{xs:List Int}(h:xs.length=256)(h1:1<=(aL xs).length):bY (dv xs 15)=true:=by
 have Hk:=gj xs;have hn:(aL xs).length<=2^cv 15:=by rw[Fs];omega
 have hm:1<=cv 15:=by rw[Fs];omega
 have FI:(dv xs 15).length=xs.length:=lL (by omega) hn;have FW:=fun s (hs:s<xs.length)=>Bm (most:=15) (by omega) hn hm hs;rw[Fs]at FW;have FQ:∀ x∈dv xs 15,0<=x/\x<=15:=by
  intro x hx;obtain⟨s,hs,rfl⟩:=List.mem_iff_getElem.1 hx;have:=FW s (by omega);have e:(dv xs 15).getD s 0=(dv xs 15)[s]:=by simp[List.getD_eq_getElem?_getD,hs]
  omega
 unfold bY;have a1:decide ((dv xs 15).length<=256)=true:=by simp;omega
 have a2:(dv xs 15).all (fun x=>decide (0<=x/\x<=15))=true:=by
  rw[List.all_eq_true];intro x hx;simpa using FQ x hx
 rw[a1,a2,Bool.true_and,Bool.true_and];by_cases h2:2<=(aL xs).length
 ·have:=Df (most:=15) (by omega) h2 hn hm (by rw[Fs];omega);simp[this]
 ·have HT:(aL xs).length=1:=by omega
  have hp:=zL FI (fun s hs=>(FW s hs).2.2);have OY:(dv xs 15).all (fun x=>decide (x<=1))=true:=by
   rw[List.all_eq_true];intro x hx;obtain⟨s,hs,rfl⟩:=List.mem_iff_getElem.1 hx;have e:(dv xs 15).getD s 0=(dv xs 15)[s]:=by simp[List.getD_eq_getElem?_getD,hs]
   rw[← e,qG (by omega) hn (by omega)];obtain⟨c,hc⟩:=List.length_eq_one_iff.1 HT;have Nb:(bU xs (cv 15)).length=1:=by
    unfold bU;rw[if_pos HT,hc];have:=(nq (xs:=xs) (c:=c) (by rw[hc];simp)).1;simp[this]
   have:=List.count_le_length (a:=s) (l:=bU xs (cv 15));simp;omega
  rw[OY,hp,HT];simp
theorem el{b:List Int}(h:aQ b)(FG:b≠[]):(j7 b).length=256/\bY (j7 b)=true/\(∀ x∈er b,x<(j7 b).length/\0<ln (j7 b) x)/\(∀ v∈j7 b,0<=v/\v<=15):=by
 have hl:=yY b;have GH:∀ x∈er b,x<256/\0<(pz b).getD x 0:=by
  intro x hx;obtain⟨y,hy,rfl⟩:=List.mem_map.1 hx;have:=h y hy;refine⟨by omega,?_⟩;rw[DA b (by omega)];have:=List.count_pos_iff.2 hx;omega
 have h1:1<=(aL (pz b)).length:=by
  obtain⟨y,t,rfl⟩:=List.exists_cons_of_ne_nil FG;have:=GH y.toNat (by simp);exact Cw (s:=y.toNat) (by omega) this.2
 have hr:=zX hl h1;have Hk:=gj (pz b);have hn:(aL (pz b)).length<=2^cv 15:=by rw[Fs];omega
 have hm:1<=cv 15:=by rw[Fs];omega
 have FI:(j7 b).length=256:=by rw[j7,lL (by omega) hn,hl]
 have FW:=fun s (hs:s<(pz b).length)=>Bm (most:=15) (by omega) hn hm hs;rw[Fs]at FW;refine⟨FI,hr,fun x hx=>⟨by have:=GH x hx;omega,((FW x (by have:=GH x hx;omega)).2.2).2 (GH x hx).2⟩,?_⟩;intro v hv;obtain⟨s,hs,rfl⟩:=List.mem_iff_getElem.1 hv;have:=FW s (by omega);have e:(dv (pz b) 15).getD s 0=(j7 b)[s]:=by
  show(j7 b).getD s 0=_;simp[List.getD_eq_getElem?_getD,hs]
 omega
theorem nN:∀(l:List Int)(s nx:Nat),nx<=s->0<cH l->∃(i:Nat)(x:Int),l[i]?=some x/\0<x/\(∀ j y,j<i->l[j]?=some y->¬ 0<y) ∧
    dt l s nx=bX (s+i-nx)++(bX x.toNat++dt (l.drop (i+1)) (s+i+1) (s+i+1))/\cH l=1+cH (l.drop (i+1))
  | [],s,nx,_,h=>by simp[cH]at h
  | x ::l,s,nx,FW,h=>by
    by_cases hx:0<x
    · refine⟨0,x,rfl,hx,fun j y hj=>by omega,?_,?_⟩
      · simp[dt,hx]
      · simp[cH,hx];omega
    · have hp:cH (x ::l)=cH l:=by simp[cH,hx]
      obtain⟨i,y,h1,h2,h3,h4,h5⟩:=nN l (s+1) nx (by omega) (by omega);refine⟨i+1,y,by simpa using h1,h2,?_,?_,?_⟩
      · intro j z hj hz;cases j with
        | zero=>simp at hz;subst hz;exact hx
        | succ j=>exact h3 j z (by omega) (by simpa using hz)
      · rw[dt,if_neg hx,h4];simp only[List.drop_succ_cons];rw[show s+1+i-nx=s+(i+1)-nx by omega,show s+1+i+1=s+(i+1)+1 by omega]
      · rw[hp,h5];simp
theorem m9:∀(l:List Int)(s nx:Nat),cH l=0->dt l s nx=[]/\∀ x∈l,¬ 0<x
 | [],s,nx,_=>by simp[dt]
 | x ::l,s,nx,h=>by
  have hx:¬ 0<x:=by intro hx;simp[cH,hx]at h
  have hp:cH l=0:=by simpa[cH,hx]using h
  obtain⟨h1,h2⟩:=m9 l (s+1) nx hp;refine⟨by rw[dt,if_neg hx,h1],fun y hy=>?_⟩;rcases List.mem_cons.1 hy with e | e
  ·rw[e];exact hx
  ·exact h2 y e
def nU(ls:List Int)(k:Nat):List Int:=ls.take k++List.replicate (256-k) 0
theorem jX{ls:List Int}{k:Nat}(hl:ls.length=256)(hk:k<=256):(nU ls k).length=256:=by simp[nU];omega
theorem sY{ls:List Int}{k j:Nat}(hl:ls.length=256)(hk:k<=256)(hj:j<256):(nU ls k)[j]?=some (if j<k then ln ls j else 0):=by
 unfold nU;by_cases h:j<k
 ·rw[List.getElem?_append_left (by simp;omega),List.getElem?_take,if_pos h,if_pos h,ln,List.getD_eq_getElem?_getD,List.getElem?_eq_getElem (by omega)];rfl
 ·rw[List.getElem?_append_right (by simp;omega),List.getElem?_replicate,if_neg h,if_pos (by simp;omega)]
theorem vA(ls:List Int):nU ls 0=List.replicate 256 0:=by simp[nU]
theorem BO{ls:List Int}{k i:Nat}{x:Int}(hl:ls.length=256)(hr:∀ v∈ls,0<=v)(hk:k<=256)(hi:(ls.drop k)[i]?=some x)(hz:∀ j y,j<i->(ls.drop k)[j]?=some y->¬ 0<y):k+i<256/\(nU ls k).set (k+i) x=nU ls (k+i+1):=by
 rw[List.getElem?_drop]at hi;have FE:=(List.getElem?_eq_some_iff.1 hi).1;refine⟨by omega,?_⟩;apply List.ext_getElem?;intro j;by_cases hj:j<256
 ·rw[List.getElem?_set,sY hl hk hj,sY hl (by omega) hj];by_cases e:k+i=j
  ·subst e;rw[if_pos rfl,if_pos (by rw[jX hl hk];omega),if_pos (by omega),ln,List.getD_eq_getElem?_getD,hi];rfl
  ·rw[if_neg e];by_cases h1:j<k
   ·rw[if_pos h1,if_pos (by omega)]
   ·rw[if_neg h1];by_cases h2:j<k+i+1
    ·rw[if_pos h2];have Gq:j<ls.length:=by omega
     have:=hz (j-k) ls[j] (by omega) (by rw[List.getElem?_drop,show k+(j-k)=j by omega];simp[Gq]);have h0:=hr ls[j] (List.getElem_mem Gq);have:ln ls j=ls[j]:=by simp[ln,List.getD_eq_getElem?_getD,Gq]
     congr 1;omega
    ·rw[if_neg h2]
 ·rw[List.getElem?_eq_none (by rw[List.length_set,jX hl hk];omega),List.getElem?_eq_none (by rw[jX hl (by omega)];omega)]
theorem xH{ls:List Int}{k:Nat}(hl:ls.length=256)(hr:∀ v∈ls,0<=v)(hk:k<=256)(hz:∀ x∈ls.drop k,¬ 0<x):nU ls k=ls:=by
 apply List.ext_getElem?;intro j;by_cases hj:j<256
 ·rw[sY hl hk hj];have Gq:j<ls.length:=by omega
  have e:ln ls j=ls[j]:=by simp[ln,List.getD_eq_getElem?_getD,Gq]
  rw[List.getElem?_eq_getElem Gq,← e];by_cases h:j<k
  ·rw[if_pos h]
  ·rw[if_neg h];have h0:=hr ls[j] (List.getElem_mem Gq);have hm:ls[j]∈ls.drop k:=by
    rw[List.mem_iff_getElem?];exact⟨j-k,by rw[List.getElem?_drop,show k+(j-k)=j by omega];simp[Gq]⟩
   have:=hz _ hm;congr 1;omega
 ·rw[List.getElem?_eq_none (by rw[jX hl hk];omega),List.getElem?_eq_none (by omega)]
theorem jK{u v:Nat}{s t:List Int}(hu:u<2^64)(hv:v<2^64)(h:bX u++s=bX v++t):u=v/\s=t:=by
 have h1:=dW (most:=2^64) (n:=u) (by omega) hu s;have h2:=dW (most:=2^64) (n:=v) (by omega) hv t;rw[h]at h1;rw[h1]at h2;have:u=v:=by have:=congrArg Prod.fst h2;simp at this;omega
 subst this;exact⟨rfl,List.append_cancel_left h⟩
end Go.Proofs.YtlieaecnllkefaaGreat
/-! Bytes in fewer ones: no text begins as another. -/
namespace Go.Proofs.YtlieaecnllkefaaGreat
open Go Go.V Go.RowKit
theorem yA:∀(n:Nat)(l l':List Int)(k:Nat)(a b:List Int),cH l=n->cH l'=n->l.length=l'.length->k+l.length<=256->(∀ v∈l,0<=v/\v<=15)->(∀ v∈l',0<=v/\v<=15)->dt l k k++a=dt l' k k++b->l=l'/\a=b
 | 0,l,l',k,a,b,h,h',hl,hk,hr,Lf,he=>by
  obtain⟨e1,z1⟩:=m9 l k k h;obtain⟨e2,z2⟩:=m9 l' k k h';rw[e1,e2]at he;refine⟨?_,by simpa using he⟩;have z:∀(q:List Int),(∀ v∈q,0<=v/\v<=15)->(∀ v∈q,¬ 0<v)->q=List.replicate q.length 0:=fun q h1 h2=>by
   rw[List.eq_replicate_iff];exact⟨rfl,fun v hv=>by have:=h1 v hv;have:=h2 v hv;omega⟩
  rw[z l hr z1,z l' Lf z2,hl]
 | n+1,l,l',k,a,b,h,h',hl,hk,hr,Lf,he=>by
  obtain⟨i,x,h1,h2,h3,h4,h5⟩:=nN l k k (Nat.le_refl _) (by omega);obtain⟨i',x',Ia,Ks,TK,RX,X8⟩:=nN l' k k (Nat.le_refl _) (by omega);have hi:=(List.getElem?_eq_some_iff.1 h1).1;have KI:=(List.getElem?_eq_some_iff.1 Ia).1;have hx:=hr x (List.mem_of_getElem? h1);have GD:=Lf x' (List.mem_of_getElem? Ia);rw[h4,RX,List.append_assoc,List.append_assoc,List.append_assoc,List.append_assoc]at he;obtain⟨e1,ST⟩:=jK (by omega) (by omega) he;obtain⟨e2,VH⟩:=jK (by omega) (by omega) ST;clear he ST;have ei:i=i':=by omega
  have ex:x=x':=by omega
  subst ei ex;obtain⟨ed,ea⟩:=yA n (l.drop (i+1)) (l'.drop (i+1)) (k+i+1) a b (by omega) (by omega) (by simp[hl]) (by simp;omega) (fun v hv=>hr v (List.mem_of_mem_drop hv)) (fun v hv=>Lf v (List.mem_of_mem_drop hv)) VH;refine⟨?_,ea⟩;apply List.ext_getElem?;intro j;by_cases hj:j<i
  ·have jl:j<l.length:=by omega
   have jl':j<l'.length:=by omega
   have a1:=h3 j l[j] hj (by simp[jl]);have a2:=TK j l'[j] hj (by simp[jl']);have b1:=hr _ (List.getElem_mem jl);have b2:=Lf _ (List.getElem_mem jl');rw[List.getElem?_eq_getElem jl,List.getElem?_eq_getElem jl'];congr 1;omega
  ·by_cases e:j=i
   ·subst e;rw[h1,Ia]
   ·have:=congrArg (fun q=>q[j-(i+1)]?) ed;simp only[List.getElem?_drop]at this
    rwa [show i+1+(j-(i+1))=j by omega]at this
theorem wm(a b:List Int)(i:Nat):dD (a++b) i=if i<8*a.length then dD a i else dD b (i-8*a.length):=by
 unfold dD;by_cases h:i<8*a.length
 ·rw[if_pos h,List.getD_eq_getElem?_getD,List.getD_eq_getElem?_getD,List.getElem?_append_left (by omega)]
 ·rw[if_neg h,List.getD_eq_getElem?_getD,List.getD_eq_getElem?_getD,List.getElem?_append_right (by omega)];rw[show(i-8*a.length) / 8=i / 8-a.length by omega,show(i-8*a.length) % 8=i % 8 by omega]
theorem qX(a b:List Int):aM (a++b)=aM a++aM b:=by
 apply List.ext_getElem?;intro j;unfold aM;simp only[List.getElem?_append,List.getElem?_map,List.length_map,List.length_range,List.length_append];by_cases h:j<8*a.length
 ·rw[if_pos h,List.getElem?_range (by omega),List.getElem?_range (by omega)];simp[wm,h]
 ·rw[if_neg h];by_cases h2:j<8*(a.length+b.length)
  ·rw[List.getElem?_range h2,List.getElem?_range (by omega)];simp[wm,h]
  ·rw[List.getElem?_eq_none (by simp;omega),List.getElem?_eq_none (by simp;omega)];rfl
theorem Bx{ls:List Int}(hR:bY ls=true):∀(o b:List Nat)(s t:List Bool),o.length=b.length->(∀ x∈o,x<ls.length/\0<ln ls x)->(∀ x∈b,x<ls.length/\0<ln ls x)->fu ls o++s=fu ls b++t->o=b
 | [],b,s,t,hl,_,_,_=>by cases b with
  | nil=>rfl
  | cons=>simp at hl
 | x ::o,[],s,t,hl,_,_,_=>by simp at hl
 | x ::o,y ::b,s,t,hl,ho,hb,he=>by
  rw[gP,gP,List.append_assoc,List.append_assoc]at he;have h1:=jA hR (ho x (by simp)) (fu ls o++s);have h2:=jA hR (hb y (by simp)) (fu ls b++t);rw[he,h2]at h1;have e:y=x:=by simpa using congrArg (fun q=>q.map Prod.fst) h1
  subst e;have:=Bx hR o b s t (by simpa using hl) (fun z hz=>ho z (by simp[hz])) (fun z hz=>hb z (by simp[hz])) (List.append_cancel_left he);rw[this]
theorem Ef{o b:List Int}(ho:aQ o)(hb:aQ b)(h:er o=er b):o=b:=by
 have e:∀ q:List Int,aQ q->(er q).map (fun n:Nat=>(n:Int))=q:=by
  intro q hq;rw[List.map_map]
  conv=>rhs;rw[← List.map_id q]
  apply List.map_congr_left;intro x hx;have:=hq x hx;simp;omega
 rw[← e o ho,← e b hb,h]
theorem tR{o b s t:List Int}(ho:aQ o)(hb:aQ b)(G0:o.length<2^64)(IC:b.length<2^64)(h:cy o++s=cy b++t):o=b:=by
 have FI:o.length=b.length:=by
  unfold cy at h;have e:∀ q:List Int,∃ r,(if q=[] then bX 0 else bX q.length++(bX (cH (j7 q))++(dt (j7 q) 0 0++dM (fu (j7 q) (er q)))))=bX q.length++r:=by
   intro q;by_cases hq:q=[]
   ·exact⟨[],by simp[hq]⟩
   ·exact⟨_,if_neg hq⟩
  obtain⟨r1,e1⟩:=e o;obtain⟨r2,e2⟩:=e b;rw[e1,e2,List.append_assoc,List.append_assoc]at h;exact(jK G0 IC h).1
 by_cases PC:o=[]
 ·subst PC;simp at FI;exact(List.eq_nil_of_length_eq_zero FI.symm).symm
 ·have Nd:b≠[]:=fun e=>by subst e;simp at FI;exact PC FI
  unfold cy at h;rw[if_neg PC,if_neg Nd]at h;simp only[List.append_assoc]at h;obtain⟨_,h⟩:=jK G0 IC h;obtain⟨l1,r1,s1,v1⟩:=el ho PC;obtain⟨l2,r2,s2,v2⟩:=el hb Nd;have p1:=jt (j7 o);have p2:=jt (j7 b);obtain⟨hp,h⟩:=jK (by omega) (by omega) h;obtain⟨hl,h⟩:=yA _ _ _ 0 _ _ rfl hp.symm (by omega) (by omega) v1 v2 h;rw[hl]at h s1;have h2:=congrArg aM h;rw[qX,qX,fj,fj,List.append_assoc,List.append_assoc]at h2;exact Ef ho hb (Bx r2 _ _ _ _ (by simpa using FI) s1 s2 h2)
theorem pM{o b:List Int}(ho:aQ o)(hb:aQ b)(G0:o.length<2^64)(IC:b.length<2^64)(h:cy o=cy b):o=b :=
 tR (s:=[]) (t:=[]) ho hb G0 IC (by rw[h])
end Go.Proofs.YtlieaecnllkefaaGreat
/-! huff.Put: the walk. -/
namespace Go.Proofs.YtlieaecnllkefaaGreat
open Go Go.V Go.RowKit
theorem jf{w:World}{b b' s s' n c n' c':Nat}{e e':TypeId}{A A':OA}{xs xs':List Value}(h:aE w b e s A n c xs)(h':aE w b' e' s' A' n' c' xs')(ne:e≠e'):(Value.slice A n c).ownBlock=none∨(Value.slice A n c).ownBlock≠(Value.slice A' n' c').ownBlock:=by
 cases hk:(Value.slice A n c).ownBlock with
 | none=>exact .inl rfl
 | some k =>
  refine .inr fun hq=>?_;obtain⟨c1,h1⟩:=h.block_type k hk;obtain⟨c2,h2⟩:=h'.block_type k hq.symm;rw[h1]at h2;cases h2;exact ne rfl
theorem df{w:World}{b s n c:Nat}{e:TypeId}{A:OA}{xs:List Value}(h:aE w b e s A n c xs):A=none->c=0:=by
 obtain⟨_,⟨_,_,e,_⟩ | ⟨g,cur,e,_⟩⟩:=h.cases
 ·exact fun _=>e
 ·intro q;rw[q]at e;cases e
theorem vP(x:Int)(l:List Int):cH (x ::l)=(if 0<x then 1 else 0)+cH l:=by
 unfold cH;rw[List.filter_cons];by_cases h:0<x
 ·simp[h];omega
 ·simp[h]
theorem vN(a b:Nat):aX [a,b]=bX a++bX b:=by simp[aX]
theorem iS(a:Nat):aX [a]=bX a:=by simp[aX]
theorem cC{w:World}{b n c:Nat}{A:OA}{xs:List Int}(h:aE w b 5 1 A n c (bV xs)):n=xs.length:=by
 have:=h.cases.1;rw[List.length_map]at this;omega
theorem pj{w:World}{A:OA}{n c:Nat}{b:List Int}(hr:aZ w A (bV b))(hn:n=b.length)(hb:aQ b)(hl:n<=2^20):
    Calls P 69 #[.slice A n c] w fun ev w'=>∃(A':OA)(n' c':Nat),ev=.returned (.slice A' n' c')/\aE w' w.heap.size 5 1 A' n' c' (bV (cy b))/\w.grownBy w' none:=by
  apply vc69;dsimp only[VC69,Br,Rd,Ix,Ap,cB,cS,nb,iq]
  try simp only[aF]
  refine⟨by omega,?_⟩;have gal:=World.grownBy_alloc w (.cells #[.int .u64 (n:Int)] 22) none;have IV:aZ (w.alloc (.cells #[.int .u64 (n:Int)] 22)) (some ⟨w.heap.size,0,none⟩) (kr [n]):=de w _ 22;refine(iO (l:=[n]) IV rfl (by simp;omega) (by simp)).mono fun ev w1 hh=>?_;obtain⟨A1,n1,c1,rfl,o1,g1⟩:=hh;replace o1:=o1.mono (base':=w.heap.size) gal.size;have He:=aA gal g1;rw[iS]at o1;refine⟨A1,n1,c1,rfl,fun h0=>?_,fun h0=>?_⟩
  · have e:b=[]:=by apply List.eq_nil_of_length_eq_zero;omega
    subst e;have e0:n=0:=by omega
    subst e0;exact⟨_,_,_,rfl,by simpa[cy]using o1,He⟩
  have FG:b≠[]:=fun e=>by subst e;simp at hn;omega
  obtain⟨HK,hR,GH,Hv⟩:=el hb FG;have Jj:cy b=bX n++(bX (cH (j7 b))++(dt (j7 b) 0 0++dM (fu (j7 b) (er b)))):=by rw[cy,if_neg FG,hn]
  have r1:=hr.kept_none He;refine(vq r1 hn hb (by omega)).mono fun ev w2 hh=>?_;obtain⟨A2,n2,c2,rfl,o2,g2⟩:=hh;refine⟨_,_,_,rfl,?_⟩;have Hp:n2=(pz b).length:=by rw[o2.cases.1];simp[aS]
  refine(vi (most:=15) o2.row Hp).mono fun ev w3 hh=>?_;obtain⟨A3,n3,c3,rfl,o3,g3⟩:=hh;replace o3:cP w3 w2.heap.size 3 A3 n3 c3 (aS (j7 b)):=o3;generalize j7 b=ls at *;have Jn:n3=256:=by rw[o3.cases.1];simp[aS,HK]
  have Qq:=jt ls;have IM:=cK (v:=n) (by omega);have Gv:=aA g2 g3;have FY:=aA He Gv;refine⟨_,_,_,rfl,?_⟩;refine⟨fun m nn nx Ah nh ch i w4=>∃(j k:Nat)(hd:List Int),i=(j:Int)/\nx=(k:Int)/\k<=j/\j<=256/\m=256-j/\nn+(cH (ls.drop j):Int)=(cH ls:Int)/\hd++dt (ls.drop j) j k=dt ls 0 0/\aE w4 w3.heap.size 5 1 Ah nh ch (bV hd)/\hd.length<=20*j/\0<=nn/\w3.grownBy w4 none,
    ⟨_,0,0,[],rfl,rfl,by omega,by omega,rfl,by simp,by simp,aE.nil _ _ _ _,by simp,by omega,aC _ _⟩,?_⟩
  rintro m nn nx Ah nh ch i w4 ⟨j,k,hd,rfl,rfl,Vi,hj,rfl,Iu,Hi,oh,Vt,JT,FS⟩;have tj:(j:Int).toNat=j:=by omega
  rw[tj];have UX:=cC oh;refine⟨fun FE=>?_,fun FJ=>?_⟩
  · have lj:j<ls.length:=by omega
    have F8:=List.drop_eq_getElem_cons lj;have NM:=Hv _ (List.getElem_mem lj);obtain⟨p,hp⟩:∃ p:Nat,ls[j]=(p:Int):=⟨ls[j].toNat,by omega⟩;obtain⟨a,FU,FP⟩:=(o3.row.kept_none FS) j (.int .i64 ls[j]) (by simp[aS,lj]);rw[hp]at FP F8 NM;rw[F8,dt]at Hi;rw[F8,vP]at Iu;refine⟨a,FU,by omega,by omega,_,FP,fun FO=>?_,fun hz=>?_⟩
    · rw[if_pos (by omega)]at Hi Iu;have ep:(p:Int).toNat=p:=by omega
      rw[ep]at Hi;refine⟨by omega,by omega,by omega,?_⟩;rw[show((j:Int)-(k:Int))=((j-k:Nat):Int) by omega];have ga:=World.grownBy_alloc w4 (.cells #[.int .u64 ((j-k:Nat):Int),.int .u64 (p:Int)] 22) none;have IV:aZ (w4.alloc (.cells #[.int .u64 ((j-k:Nat):Int),.int .u64 (p:Int)] 22)) (some ⟨w4.heap.size,0,none⟩) (kr [j-k,p]):=de w4 _ 22;refine(iO (l:=[j-k,p]) IV rfl (by simp;omega) (by simp)).mono fun ev w5 hh=>?_;obtain⟨A5,n5,c5,rfl,o5,g5⟩:=hh;have Jg:=aA ga g5;rw[vN]at o5;have IN:=cC o5;have l1:=cK (v:=j-k) (by omega);have l2:=cK (v:=p) (by omega);have l5:(bX (j-k)++bX p).length<=20:=by rw[List.length_append];omega
      obtain⟨A6,n6,c6,w6,e1,e2,e3,e4⟩:=aV (oh.kept Jg) o5.row IN (df o5) (by omega) (Nat.le_trans FS.size Jg.size);refine⟨_,_,_,rfl,_,_,_,w6,e1,by omega,by omega,by omega,256-(j+1),by omega,j+1,j+1,hd++(bX (j-k)++bX p),by omega,by omega,by omega,by omega,rfl,by omega,?_,e2,?_,by omega,aN (aA FS Jg) e3 oh.block_ge⟩
      · rw[← Hi];simp
      · rw[List.length_append];omega
    · rw[if_neg (by omega)]at Hi Iu;exact⟨by omega,256-(j+1),by omega,j+1,k,hd,by omega,rfl,by omega,by omega,rfl,by omega,Hi,oh,by omega,JT,FS⟩
  have e256:j=256:=by omega
  subst e256;rw[List.drop_eq_nil_of_le (by omega)]at Hi Iu;simp only[dt,List.append_nil]at Hi;subst Hi;have LY:nn=(cH ls:Int):=by simp[cH]at Iu ⊢;omega
  subst LY;refine⟨by omega,?_⟩;have ga:=World.grownBy_alloc w4 (.cells #[.int .u64 (cH ls:Int)] 22) none;have IV:aZ (w4.alloc (.cells #[.int .u64 (cH ls:Int)] 22)) (some ⟨w4.heap.size,0,none⟩) (kr [cH ls]):=de w4 _ 22;refine(iO (l:=[cH ls]) IV rfl (by simp;omega) (by simp)).mono fun ev w7 hh=>?_;obtain⟨A7,n7,c7,rfl,o7,g7⟩:=hh;have Kf:=aA ga g7;have MJ:=aA FS Kf;have IJ:=aA Gv MJ;rw[iS]at o7;have PG:=cC o7;have HU:=cC o1;have l7:=cK (v:=cH ls) (by omega);have o1':=o1.kept IJ;have oh7:=oh.kept Kf;have Nq:=aE.kept (size:=1) o3 MJ;obtain⟨A8,n8,c8,w8,e1,e2,e3,e4⟩:=aV o1' o7.row PG (df o7) (by omega) (Nat.le_trans He.size IJ.size);refine⟨_,_,_,rfl,_,_,_,w8,e1,?_⟩;have oh8:=oh7.apart e3 (by
    cases hk:(Value.slice Ah nh ch).ownBlock with
    | none=>exact .inl rfl
    | some k =>
      refine .inr fun hq=>?_;have a1:=oh.block_ge k hk;have a2:=o1.block_lt k hq.symm;have a3:=Gv.size;omega)
  have Np:=Nq.apart e3 (jf Nq o1' (by decide));have K8:Kp w w8 (fun k=>w.heap.size<=k):=(Kp.of_none (aA He IJ)).step e3 (fun k hk=>.inr (o1.block_ge k hk));obtain⟨A9,n9,c9,w9,f1,f2,f3,f4⟩:=aV e2 oh8.row (cC oh8) (df oh8) (by omega) K8.size;refine⟨_,_,_,w9,f1,?_⟩;have Nn:=Np.apart f3 (jf Np e2 (by decide));have K9:Kp w w9 (fun k=>w.heap.size<=k):=K8.step f3 (fun k hk=>.inr (e2.block_ge k hk));refine(vW (ls:=ls) Nn.row (by omega) (by omega)).mono fun ev FZ hh=>?_;obtain⟨Ie,⟨hf,rfl⟩ | ⟨_,gt,rfl,hT⟩⟩:=hh
  · rw[hR]at hf;cases hf
  refine⟨_,_,rfl,?_⟩;refine(my (base:=FZ.heap.size) (Nat.le_refl _)).mono fun ev Gw hh=>?_;obtain⟨rfl,hW,Nl⟩:=hh;refine⟨_,rfl,?_⟩;have K10:Kp w FZ (fun k=>w.heap.size<=k):=K9.step Ie (fun k hk=>by cases hk);have r10:aZ FZ A (bV b):=hr.kp K10 (fun a ha hk e=>by omega);have hA:∀ a,A=some a->a.block<w.heap.size:=fun a ha=>by
    obtain⟨q,q1,q2⟩:=hr.blk (by simpa using FG);rw[ha]at q1;cases q1;exact q2
  have keepT:∀ w',Kp FZ w' (fun k=>FZ.heap.size<=k)->qh w' FZ.heap.size gt ls:=fun w' h=>hT.kp h (fun k hk e=>by omega);refine⟨fun m i HD=>∃ j:Nat,i=(j:Int)/\j<=b.length/\m=b.length-j/\Wr HD FZ.heap.size FZ.heap.size (fu ls ((er b).take j))/\Kp FZ HD (fun k=>FZ.heap.size<=k),
    ⟨_,0,rfl,by omega,rfl,by simpa[fu]using hW,Kp.of_none Nl⟩,?_⟩
  rintro m i HD ⟨j,rfl,hj,rfl,I5,K12⟩;have tj:(j:Int).toNat=j:=by omega
  rw[tj];have Mg:=ni hR ((er b).take j);have Qf:=mH hR ((er b).take j);have JA:((er b).take j).length=j:=by simp;omega
  refine⟨fun FE=>?_,fun FJ=>?_⟩
  · have lj:j<b.length:=by omega
    obtain⟨a,FU,FP⟩:=(r10.kp K12 (fun a ha _ e=>by have:=hA a ha;have:=K10.size;omega)) j (.int .u8 b[j]) (by simp[lj]);have PL:=hb _ (List.getElem_mem lj);refine⟨a,FU,by omega,by omega,_,FP,by omega,?_⟩;refine(wF (s:=b[j]) (keepT HD K12) hR I5 (by omega) K12.size).mono fun ev Hs hh=>?_;obtain⟨rfl,Ms,k13⟩:=hh;refine⟨_,rfl,by omega,b.length-(j+1),by omega,j+1,by omega,by omega,rfl,?_,K12.then k13 (fun k _ e=>e.1)⟩;have hs:=GH b[j].toNat (by simp only[er];exact List.mem_map_of_mem (List.getElem_mem lj));have hv:ii ls b[j]=true:=by simp[ii];omega
    rw[List.take_succ_eq_append_getElem (by simpa using lj),rT];have:fu ls [(er b)[j]'(by simpa using lj)]=kc ls b[j]:=by
      rw[kc,if_pos hv];simp[fu]
    rw[this];exact Ms
  · have e:j=b.length:=by omega
    subst e;rw[List.take_of_length_le (by simp)]at I5 Mg Qf;have Pw:(er b).length=b.length:=by simp
    refine(sg I5 (by omega)).mono fun ev Lx hh=>?_;obtain⟨WW,TZ,c14,rfl,Kv,Ib⟩:=hh;refine⟨_,_,_,rfl,?_⟩;have f2':=aE.kp (f2.kept Ie) (K12.step Ib (fun k hk=>by cases hk)) (fun k hk e=>by have:=f2.block_lt k hk;have:=Ie.size;omega);have L0:=cC Kv;rw[bM]at L0;have Qy:=cC f2;have JS:=cC e2;obtain⟨WV,TY,c15,PY,h1,h2,h3,h4⟩:=aV f2' Kv.row (cC Kv) (df Kv) (by omega) (Nat.le_trans K10.size (Nat.le_trans K12.size Ib.size));refine⟨_,_,_,PY,h1,_,_,_,rfl,?_,?_⟩
    · rw[Jj];simpa using h2
    · have K12':Kp w HD (fun k=>w.heap.size<=k):=K10.then K12 (fun k hk e=>by have:=K10.size;omega);exact((K12'.step Ib (fun k hk=>by cases hk)).step h3 (fun k hk=>.inr (f2.block_ge k hk))).grown (fun k hk e=>by omega)
end Go.Proofs.YtlieaecnllkefaaGreat
/-! archipelagoref5.Put: the walk. -/
namespace Go.Proofs.YtlieaecnllkefaaGreat
open Go Go.V Go.RowKit
theorem mL{w:World}{A:OA}{n c:Nat}{b:List Int}(hr:aZ w A (bV b))(hn:n=b.length)(hb:aQ b)(hl:n<=2^20):
    Calls P 79 #[.slice A n c] w fun ev w'=>∃(A':OA)(n' c':Nat),ev=.returned (.slice A' n' c')/\aE w' w.heap.size 5 1 A' n' c' (bV (cy b))/\w.grownBy w' none:=by
  apply vc79;dsimp only[VC79,Br,Rd,Ix,Ap,cS,cU,nb,iq]
  try simp only[aF]
  refine⟨by omega,?_⟩;have gal:=World.grownBy_alloc w (.cells #[.int .u64 (n:Int)] 22) none;have IV:aZ (w.alloc (.cells #[.int .u64 (n:Int)] 22)) (some ⟨w.heap.size,0,none⟩) (kr [n]):=de w _ 22;refine(j4 (l:=[n]) IV rfl (by simp;omega) (by simp)).mono fun ev w1 hh=>?_;obtain⟨A1,n1,c1,rfl,o1,g1⟩:=hh;replace o1:=o1.mono (base':=w.heap.size) gal.size;have He:=aA gal g1;rw[iS]at o1;refine⟨A1,n1,c1,rfl,fun h0=>?_,fun h0=>?_⟩
  · have e:b=[]:=by apply List.eq_nil_of_length_eq_zero;omega
    subst e;have e0:n=0:=by omega
    subst e0;exact⟨_,_,_,rfl,by simpa[cy]using o1,He⟩
  have FG:b≠[]:=fun e=>by subst e;simp at hn;omega
  obtain⟨HK,hR,GH,Hv⟩:=el hb FG;have Jj:cy b=bX n++(bX (cH (j7 b))++(dt (j7 b) 0 0++dM (fu (j7 b) (er b)))):=by rw[cy,if_neg FG,hn]
  have r1:=hr.kept_none He;refine(tJ r1 hn hb (by omega)).mono fun ev w2 hh=>?_;obtain⟨A2,n2,c2,rfl,o2,g2⟩:=hh;refine⟨_,_,_,rfl,?_⟩;have Hp:n2=(pz b).length:=by rw[o2.cases.1];simp[aS]
  refine(qC (most:=15) o2.row Hp).mono fun ev w3 hh=>?_;obtain⟨A3,n3,c3,rfl,o3,g3⟩:=hh;replace o3:cP w3 w2.heap.size 3 A3 n3 c3 (aS (j7 b)):=o3;generalize j7 b=ls at *;have Jn:n3=256:=by rw[o3.cases.1];simp[aS,HK]
  have Qq:=jt ls;have IM:=cK (v:=n) (by omega);have Gv:=aA g2 g3;have FY:=aA He Gv;refine⟨_,_,_,rfl,?_⟩;refine⟨fun m nn nx Ah nh ch i w4=>∃(j k:Nat)(hd:List Int),i=(j:Int)/\nx=(k:Int)-1/\k<=j/\j<=256/\m=256-j/\nn+(cH (ls.drop j):Int)=(cH ls:Int)/\hd++dt (ls.drop j) j k=dt ls 0 0/\aE w4 w3.heap.size 5 1 Ah nh ch (bV hd)/\hd.length<=20*j/\0<=nn/\w3.grownBy w4 none,
    ⟨_,0,0,[],rfl,by omega,by omega,by omega,rfl,by simp,by simp,aE.nil _ _ _ _,by simp,by omega,aC _ _⟩,?_⟩
  rintro m nn nx Ah nh ch i w4 ⟨j,k,hd,rfl,rfl,Vi,hj,rfl,Iu,Hi,oh,Vt,JT,FS⟩;have tj:(j:Int).toNat=j:=by omega
  rw[tj];have UX:=cC oh;refine⟨fun FE=>?_,fun FJ=>?_⟩
  · have lj:j<ls.length:=by omega
    have F8:=List.drop_eq_getElem_cons lj;have NM:=Hv _ (List.getElem_mem lj);obtain⟨p,hp⟩:∃ p:Nat,ls[j]=(p:Int):=⟨ls[j].toNat,by omega⟩;obtain⟨a,FU,FP⟩:=(o3.row.kept_none FS) j (.int .i64 ls[j]) (by simp[aS,lj]);rw[hp]at FP F8 NM;rw[F8,dt]at Hi;rw[F8,vP]at Iu;refine⟨a,FU,by omega,by omega,_,FP,fun FO=>?_,fun hz=>?_⟩
    · rw[if_pos (by omega)]at Hi Iu;have ep:(p:Int).toNat=p:=by omega
      rw[ep]at Hi;refine⟨by omega,by omega,by omega,a,FU,by omega,by omega,_,FP,by omega,?_⟩;rw[show((j:Int)-((k:Int)-1)-1)=((j-k:Nat):Int) by omega];have ga:=World.grownBy_alloc w4 (.cells #[.int .u64 ((j-k:Nat):Int),.int .u64 (p:Int)] 22) none;have IV:aZ (w4.alloc (.cells #[.int .u64 ((j-k:Nat):Int),.int .u64 (p:Int)] 22)) (some ⟨w4.heap.size,0,none⟩) (kr [j-k,p]):=de w4 _ 22;refine(j4 (l:=[j-k,p]) IV rfl (by simp;omega) (by simp)).mono fun ev w5 hh=>?_;obtain⟨A5,n5,c5,rfl,o5,g5⟩:=hh;have Jg:=aA ga g5;rw[vN]at o5;have IN:=cC o5;have l1:=cK (v:=j-k) (by omega);have l2:=cK (v:=p) (by omega);have l5:(bX (j-k)++bX p).length<=20:=by rw[List.length_append];omega
      obtain⟨A6,n6,c6,w6,e1,e2,e3,e4⟩:=aV (oh.kept Jg) o5.row IN (df o5) (by omega) (Nat.le_trans FS.size Jg.size);refine⟨_,_,_,rfl,_,_,_,w6,e1,by omega,by omega,256-(j+1),by omega,j+1,j+1,hd++(bX (j-k)++bX p),by omega,by omega,by omega,by omega,rfl,by omega,?_,e2,?_,by omega,aN (aA FS Jg) e3 oh.block_ge⟩
      · rw[← Hi];simp
      · rw[List.length_append];omega
    · rw[if_neg (by omega)]at Hi Iu;exact⟨by omega,256-(j+1),by omega,j+1,k,hd,by omega,rfl,by omega,by omega,rfl,by omega,Hi,oh,by omega,JT,FS⟩
  have e256:j=256:=by omega
  subst e256;rw[List.drop_eq_nil_of_le (by omega)]at Hi Iu;simp only[dt,List.append_nil]at Hi;subst Hi;have LY:nn=(cH ls:Int):=by simp[cH]at Iu ⊢;omega
  subst LY;refine⟨by omega,?_⟩;have ga:=World.grownBy_alloc w4 (.cells #[.int .u64 (cH ls:Int)] 22) none;have IV:aZ (w4.alloc (.cells #[.int .u64 (cH ls:Int)] 22)) (some ⟨w4.heap.size,0,none⟩) (kr [cH ls]):=de w4 _ 22;refine(j4 (l:=[cH ls]) IV rfl (by simp;omega) (by simp)).mono fun ev w7 hh=>?_;obtain⟨A7,n7,c7,rfl,o7,g7⟩:=hh;have Kf:=aA ga g7;have MJ:=aA FS Kf;have IJ:=aA Gv MJ;rw[iS]at o7;have PG:=cC o7;have HU:=cC o1;have l7:=cK (v:=cH ls) (by omega);have o1':=o1.kept IJ;have oh7:=oh.kept Kf;have Nq:=aE.kept (size:=1) o3 MJ;obtain⟨A8,n8,c8,w8,e1,e2,e3,e4⟩:=aV o1' o7.row PG (df o7) (by omega) (Nat.le_trans He.size IJ.size);refine⟨_,_,_,rfl,_,_,_,w8,e1,?_⟩;have oh8:=oh7.apart e3 (by
    cases hk:(Value.slice Ah nh ch).ownBlock with
    | none=>exact .inl rfl
    | some k =>
      refine .inr fun hq=>?_;have a1:=oh.block_ge k hk;have a2:=o1.block_lt k hq.symm;have a3:=Gv.size;omega)
  have Np:=Nq.apart e3 (jf Nq o1' (by decide));have K8:Kp w w8 (fun k=>w.heap.size<=k):=(Kp.of_none (aA He IJ)).step e3 (fun k hk=>.inr (o1.block_ge k hk));obtain⟨A9,n9,c9,w9,f1,f2,f3,f4⟩:=aV e2 oh8.row (cC oh8) (df oh8) (by omega) K8.size;refine⟨_,_,_,w9,f1,?_⟩;have Nn:=Np.apart f3 (jf Np e2 (by decide));have K9:Kp w w9 (fun k=>w.heap.size<=k):=K8.step f3 (fun k hk=>.inr (e2.block_ge k hk));have gw:=World.grownBy_alloc w9 (.cells #[.slice none 0 0] 178) none;obtain⟨w9',LB⟩:∃ w9',w9'=w9.alloc (.cells #[.slice none 0 0] 178):=⟨_,rfl⟩;have Wk:zj w9' w9.heap.size w9.heap.size []:=by rw[LB];exact⟨none,0,0,heap_alloc_new w9 _,Nat.le_refl _,aE.nil _ _ _ _⟩
  rw[← LB]at gw ⊢;refine(mO (ls:=ls) (Nn.row.kept_none gw) (by omega) (by omega)).mono fun ev FZ hh=>?_;obtain⟨Pn,Po,c10,rfl,Nr,Ie⟩:=hh;have Kd:=aA gw Ie;refine⟨_,_,_,rfl,?_⟩;have Hk:=eg hR;have UZ:Po=256:=by rw[Nr.cases.1];simp[aS,Hk,HK]
  have K10:Kp w FZ (fun k=>w.heap.size<=k):=K9.step Kd (fun k hk=>by cases hk);have r10:aZ FZ A (bV b):=hr.kp K10 (fun a ha hk e=>by omega);have hA:∀ a,A=some a->a.block<w.heap.size:=fun a ha=>by
    obtain⟨q,q1,q2⟩:=hr.blk (by simpa using FG);rw[ha]at q1;cases q1;exact q2
  have l10:aZ FZ A3 (aS ls):=Nn.row.kept_none Kd;have d10:aZ FZ Pn (aS (eF ls)):=Nr.row
  -- what is written is of the writer's two types, none of which are the rows'
  have tyA:∀(b':Nat)(B:OA)(m d:Nat)(xs:List Int),cP FZ b' 3 B m d (aS xs)->∀ w',Kp FZ w' (u4 FZ w9.heap.size [178,4])->cP w' b' 3 B m d (aS xs):=by
    intro b' B m d xs h w' hk;refine aE.kp (size:=1) h hk fun k hk e=>?_;obtain⟨t,ht,ND⟩:=e.2;obtain⟨cur,FT⟩:=aE.block_type (size:=1) h k hk;have:t=3:=ND.ne ⟨_,_,FT⟩;subst this;simp at ht
  refine⟨fun m i HD=>∃ j:Nat,i=(j:Int)/\j<=b.length/\m=b.length-j/\zj HD w9.heap.size w9.heap.size (fu ls ((er b).take j))/\aZ HD A3 (aS ls)/\aZ HD Pn (aS (eF ls))/\aE HD w.heap.size 5 1 A9 n9 c9 (bV (bX n++bX (cH ls)++dt ls 0 0))/\Kp w HD (fun k=>w.heap.size<=k)/\w9.heap.size<=HD.heap.size/\cP HD w2.heap.size 3 A3 n3 c3 (aS ls)/\(∃ b',cP HD b' 3 Pn Po c10 (aS (eF ls))),
    ⟨_,0,rfl,by omega,rfl,by simpa[fu]using Wk.kept Ie,l10,d10,f2.kept Kd,K10,Kd.size,aE.kept (size:=1) Nn Kd,_,Nr⟩,?_⟩
  rintro m i HD ⟨j,rfl,hj,rfl,I5,QK,Rg,KN,K12,sz12,ol12,bd,od12⟩;have tj:(j:Int).toNat=j:=by omega
  rw[tj];have Mg:=ni hR ((er b).take j);have Qf:=mH hR ((er b).take j);have JA:((er b).take j).length=j:=by simp;omega
  refine⟨fun FE=>?_,fun FJ=>?_⟩
  · have lj:j<b.length:=by omega
    have gd:=aH (aC HD none);obtain⟨a,FU,FP⟩:=((hr.kp K12 (fun a ha hk e=>by omega)).kept_none gd) j (.int .u8 b[j]) (by simp[lj]);have PL:=hb _ (List.getElem_mem lj);have hs:=GH b[j].toNat (by simp only[er];exact List.mem_map_of_mem (List.getElem_mem lj));obtain⟨a2,Hc,FX⟩:=(Rg.kept_none gd) b[j].toNat (.int .i64 (cd ls b[j].toNat)) (nM (by omega));obtain⟨a3,IS,Nc⟩:=(QK.kept_none gd) b[j].toNat (.int .i64 (ln ls b[j].toNat)) (nM (by omega));have Gz:=kY hR b[j].toNat;have Rl:=y0 hR hs;have NM:=(dZ hR).2.1 b[j].toNat;obtain⟨q,hq⟩:∃ q:Nat,ln ls b[j].toNat=(q:Int):=⟨(ln ls b[j].toNat).toNat,by omega⟩;have tq:(ln ls b[j].toNat).toNat=q:=by omega
    rw[tq]at Rl;have Qo:=Nat.pow_le_pow_right (n:=2) (by omega) (show q<=15 by omega);have Xf:((2^q:Nat):Int)=2^q:=by simp
    rw[hq]at Nc;refine⟨a,FU,by omega,by omega,_,FP,a2,Hc,by omega,by omega,_,FX,by omega,a,FU,by omega,by omega,_,FP,a3,IS,by omega,by omega,_,Nc,?_⟩;refine(lx (v:=cd ls b[j].toNat) (n:=q) (I5.kept gd) (by omega) (by omega) (by omega) (Nat.le_trans sz12 gd.size)).mono fun ev Hs hh=>?_;obtain⟨rfl,Ms,k13⟩:=hh;have ty13:∀(b':Nat)(B:OA)(m d:Nat)(xs:List Int),cP HD.drew b' 3 B m d (aS xs)->cP Hs b' 3 B m d (aS xs):=by
      intro b' B m d xs h;refine aE.kp (size:=1) h k13 fun k hk e=>?_;obtain⟨t,ht,ND⟩:=e.2;obtain⟨cur,FT⟩:=aE.block_type (size:=1) h k hk;have:t=3:=ND.ne ⟨_,_,FT⟩;subst this;simp at ht
    have ol13:=ty13 _ _ _ _ _ (aE.kept (size:=1) ol12 gd);have od13:=ty13 _ _ _ _ _ (aE.kept (size:=1) od12 gd);have of13:=aE.kp (KN.kept gd) k13 fun k hk e=>by
      obtain⟨t,ht,ND⟩:=e.2;obtain⟨cur,FT⟩:=(KN.kept gd).block_type k hk;have:t=5:=ND.ne ⟨_,_,FT⟩;subst this;simp at ht
    refine⟨rfl,by omega,b.length-(j+1),by omega,j+1,by omega,by omega,rfl,?_,ol13.row,od13.row,of13,(K12.drew).then k13 (fun k _ e=>by have:=e.1;have:=K9.size;omega),Nat.le_trans sz12 (Nat.le_trans gd.size k13.size),ol13,_,od13⟩;rw[List.take_succ_eq_append_getElem (by simpa using lj),rT];have:fu ls [(er b)[j]'(by simpa using lj)]=cF (cd ls b[j].toNat) q:=by
      simp[fu,tq]
    rw[this];exact Ms
  · have e:j=b.length:=by omega
    subst e;rw[List.take_of_length_le (by simp)]at I5 Mg Qf;have Pw:(er b).length=b.length:=by simp
    refine(pL I5 (by omega) sz12).mono fun ev Lx hh=>?_;obtain⟨WW,TZ,c14,rfl,Kv,Ib⟩:=hh;refine⟨_,_,_,rfl,?_⟩;have L0:=cC Kv;rw[bM]at L0;have Qy:=cC f2;have JS:=cC e2;obtain⟨WV,TY,c15,PY,h1,h2,h3,h4⟩:=aV (KN.kept Ib) Kv.row (cC Kv) (df Kv) (by omega) (Nat.le_trans K12.size Ib.size);refine⟨_,_,_,PY,h1,_,_,_,rfl,?_,?_⟩
    · rw[Jj];simpa using h2
    · exact((K12.step Ib (fun k hk=>by cases hk)).step h3 (fun k hk=>.inr (KN.block_ge k hk))).grown (fun k hk e=>by omega)
end Go.Proofs.YtlieaecnllkefaaGreat
/-! The readers' heads: numbers and lengths: the walks. -/
namespace Go.Proofs.YtlieaecnllkefaaGreat
open Go Go.V Go.RowKit
theorem CP(l:List Int)(k:Nat):(bV l).drop k=bV (l.drop k):=by simp
theorem kV{w:World}{A:OA}{c k:Nat}{l:List Int}(h:aZ w A (bV l))(hc:l.length<=c):aZ w (bB A c k 1) (bV (l.drop k)):=by
 unfold bB;split
 ·rename_i GO;rw[List.drop_eq_nil_of_le (by omega)];intro j u hj;simp at hj
 ·have:=h.drop (k*1);rw[Nat.mul_one,CP]at this;rw[Nat.mul_one];exact this
theorem qP{A:OA}{c k:Nat}{a:Addr}(h:bB A c k 1=some a):∃ a',A=some a'/\a.block=a'.block:=by
 unfold bB at h;split at h
 ·exact⟨a,h,rfl⟩
 ·cases A with
  | none=>simp at h
  | some a'=>simp at h;subst h;exact⟨a',rfl,aK _ _⟩
def iH(w:World)(g:Nat)(l:List Int)(ok:Bool):Prop:=∃(A:OA)(n c:Nat),w.heap[g]?=some (.cells #[.slice A n c,.bool ok] 236 (0,0))/\aZ w A (bV l)/\n=l.length/\n<=c/\∀ a,A=some a->l=[]∨a.block<g
theorem iH.kp{w w':World}{S:Nat->Prop}{g:Nat}{l:List Int}{ok:Bool}(h:iH w g l ok)(hk:Kp w w' S)(hS:∀ k,k<=g->¬ S k):iH w' g l ok:=by
 obtain⟨A,n,c,h1,h2,h3,h4,h5⟩:=h;exact⟨A,n,c,by rw[hk.block g (Array.getElem?_eq_some_iff.1 h1).1 (hS g (Nat.le_refl _))];exact h1,h2.kpE hk (fun a ha=>(h5 a ha).imp (fun e=>by rw[e];rfl) (fun e=>hS _ (by omega))),h3,h4,h5⟩
theorem iH.lt{w:World}{g:Nat}{l:List Int}{ok:Bool}(h:iH w g l ok):g<w.heap.size:=by
 obtain⟨A,n,c,h1,_⟩:=h;exact(Array.getElem?_eq_some_iff.1 h1).1
theorem bK{w w':World}{S:Nat->Prop}{g j:Nat}{u:Value}(h:Kp w w' S)(hS:S g):Kp w (w'.setCell ⟨g,j,none⟩ u) S:=h.set (p:=⟨g,j,none⟩) (.inr hS) u
theorem set2{w w':World}{S:Nat->Prop}{b j:Nat}{u:Value}(h:Kp w w' S)(hS:S b):Kp w (w'.setCell ((⟨b,0,none⟩:Addr).add j) u) S:=h.set (.inr (by rw[aK];exact hS)) u
theorem nL{w:World}{g:Nat}{l:List Int}{ok:Bool}{most:Int}(h:iH w g l ok)(hb:aQ l)(hl:l.length<=2^40)(hm:0<=most/\most<=9223372036854775807):
    Calls P 161 #[.pointer (some ⟨g,0,none⟩),.int .u64 most] w fun ev w'=>ev=.returned (.int .i64 (cY most l).1)/\iH w' g (l.drop (cY most l).2.1) (ok && decide ((cY most l).2.2=0))/\Kp w w' (fun k=>k=g):=by
  obtain⟨A,n,c,h1,h2,h3,h4,h5⟩:=h;apply vc161;dsimp only[VC161,Wt,Bb,Rs,iq]
  try simp only[aF]
  refine⟨_,rfl,_,_,_,aB h1 0,?_⟩;refine(mB (most:=most) h2 h3 hb (by omega)).mono fun ev w1 hh=>?_;obtain⟨rfl,g1⟩:=hh;have ht:=fy (most:=most) (b:=l) (fun x hx=>(hb x hx).1);obtain⟨v,k,e,hv⟩:∃ v k e,cY most l=(v,k,e):=⟨_,_,_,rfl⟩;rw[hv]at ht ⊢;simp only at ht ⊢;have HA:=aH g1;have lt:g<w.heap.size:=(Array.getElem?_eq_some_iff.1 h1).1;have Ia:w1.drew.heap[g]?=some (.cells #[.slice A n c,.bool ok] 236 (0,0)):=by rw[HA.block g lt (by simp)];exact h1
  have tk:(k:Int).toNat=k:=by omega
  have KG:k<=n:=by omega
  have GS:=aG Ia 0 (.slice (bB A c k 1) (n-k) (c-k));have fin:∀ q:Bool,iH ((w1.drew.setCell ⟨g,0,none⟩ (.slice (bB A c k 1) (n-k) (c-k))).setCell ⟨g,1,none⟩ (.bool q)) g (l.drop k) q/\Kp w ((w1.drew.setCell ⟨g,0,none⟩ (.slice (bB A c k 1) (n-k) (c-k))).setCell ⟨g,1,none⟩ (.bool q)) (fun k=>k=g):=by
    intro q;have K:Kp w ((w1.drew.setCell ⟨g,0,none⟩ (.slice (bB A c k 1) (n-k) (c-k))).setCell ⟨g,1,none⟩ (.bool q)) (fun k=>k=g):=bK (bK (Kp.of_none HA) rfl) rfl;refine⟨⟨_,_,_,by simpa using aG GS 1 (.bool q),?_,by simp;omega,by omega,?_⟩,K⟩
    · exact kV (h2.kpE K (fun a ha=>(h5 a ha).imp (fun e=>by rw[e];rfl) (fun e=>by omega))) (by omega)
    · intro a ha;obtain⟨a',e1,e2⟩:=qP ha;exact(h5 a' e1).imp (fun e=>by rw[e];simp) (fun e=>by omega)
  refine⟨v,(k:Int),e,rfl,_,rfl,_,_,_,aB Ia 0,⟨by omega,by omega⟩,?_⟩;rw[tk];refine⟨_,rfl,ok,by rw[aP];exact aB Ia 1,fun h=>?_,fun h=>?_⟩
  · refine⟨_,rfl,⟨_,aB Ia 0⟩,aD Ia 0,_,rfl,⟨_,by rw[aP];exact aB GS 1⟩,by rw[aP];exact aD GS 1,⟨by omega,by omega⟩,rfl,?_⟩;rw[aP,h,Bool.true_and];exact fin _
  · refine⟨_,rfl,⟨_,aB Ia 0⟩,aD Ia 0,_,rfl,⟨_,by rw[aP];exact aB GS 1⟩,by rw[aP];exact aD GS 1,⟨by omega,by omega⟩,rfl,?_⟩;rw[aP,h,Bool.false_and];exact fin _
def nw(l ls tail:List Int):Prop:=ls.length=256/\(∀ v∈ls,0<=v/\v<=15)/\l=bX (cH ls)++(dt ls 0 0++tail)
theorem nw.step{ls tail r:List Int}{k:Nat}{n:Int}(HK:ls.length=256)(hr:∀ v∈ls,0<=v/\v<=15)(hk:k<=256)(hn:n=(cH (ls.drop k):Int))(hp:0<n)(he:r=dt (ls.drop k) k k++tail):
    ∃(i:Nat)(x:Int)(r1:List Int),k+i<256/\0<=x/\x<=15/\r=bX i++r1/\r1=bX x.toNat++(dt (ls.drop (k+i+1)) (k+i+1) (k+i+1)++tail)/\(nU ls k).set (k+i) x=nU ls (k+i+1)/\n-1=(cH (ls.drop (k+i+1)):Int):=by
  obtain⟨i,x,h1,h2,h3,h4,h5⟩:=nN (ls.drop k) k k (Nat.le_refl _) (by omega);obtain⟨u1,u2⟩:=BO HK (fun v hv=>(hr v hv).1) hk h1 h3;have hx:=hr x (List.mem_of_mem_drop (List.mem_of_getElem? h1));rw[List.drop_drop,show k+(i+1)=k+i+1 by omega]at h4 h5;refine⟨i,x,_,u1,hx.1,hx.2,?_,rfl,u2,by omega⟩;rw[he,h4,show k+i-k=i by omega];simp
theorem zY {w :World} {g:Nat} {l:List Int} (h:iH w g l true) (hb:aQ l) (hl:l.length<=2^40) :
    Calls P 162 #[.pointer (some ⟨g,0,none⟩)] w fun ev w'=>∃(A':OA)(c':Nat)(out:List Int)(ok:Bool)(p:Nat),ev=.returned (.slice A' 256 c')/\aZ w' A' (aS out)/\out.length=256/\iH w' g (l.drop p) ok/\Kp w w' (fun k=>k=g)/\∀ ls tail,nw l ls tail->ok=true/\out=ls/\l.drop p=tail:=by
  apply vc162;dsimp only[VC162,Wt,Br,Bb,Ix,cI,iq]
  try simp only[aF]
  obtain⟨w1,Hm,FF,g1⟩:=il (P:=P) (w:=w) iD (by omega) (m:=256) (by omega);have Vy:=h.lt;refine⟨_,_,_,w1,Hm,?_⟩;have h1:iH w1 g l true:=h.kp (S:=fun _=>False) (Kp.of_none g1) (fun _ _ h=>h);refine(nL (most:=256) h1 hb hl (by omega)).mono fun ev w2 hh=>?_;obtain⟨rfl,RH,k2⟩:=hh;have ht:=fy (most:=256) (b:=l) (fun x hx=>(hb x hx).1);have o2:cV w2 w.heap.size 3 256 (List.replicate 256 (.int .i64 0)):=FF.of_heap (k2.block _ FF.lt (by omega));have K2:Kp w w2 (fun k=>k=g):=(Kp.of_none g1).then k2 (fun k _ e=>e);refine⟨_,rfl,?_⟩;refine⟨fun m next n w3=>∃(p k:Nat)(out:List Int)(ok:Bool),next=(k:Int)/\k<=256/\m=n.toNat/\0<=n/\n<=256/\cV w3 w.heap.size 3 256 (aS out)/\out.length=256/\iH w3 g (l.drop p) ok/\Kp w w3 (fun k=>k=g)/\∀ ls tail,nw l ls tail->ok=true/\out=nU ls k/\n=(cH (ls.drop k):Int)/\l.drop p=dt (ls.drop k) k k++tail,
    ⟨_,_,0,List.replicate 256 0,_,rfl,by omega,rfl,by omega,by omega,by simpa[aS]using o2,by simp,RH,K2,?_⟩,?_⟩
  · rintro ls tail ⟨HK,hr,he⟩;have Qq:=jt ls;have FM:=dW (most:=256) (n:=cH ls) (by omega) (by omega) (dt ls 0 0++tail);rw[← he]at FM;rw[FM];refine⟨by simp,(vA ls).symm,by simp,?_⟩;show l.drop (bX (cH ls)).length=_;rw[he];simp
  rintro m next n w3 ⟨p,k,out,ok,rfl,hk,rfl,JT,HU,ho,G0,hN,K3,hc⟩
  have IW:∀ w',w'.heap[w.heap.size]?=w3.heap[w.heap.size]?->cV w' w.heap.size 3 256 (aS out):=fun w' e=>ho.of_heap e;have fin:∀ w' (o':List Int),cV w' w.heap.size 3 256 (aS o')->aZ w' (some ⟨w.heap.size,0,none⟩) (aS o'):=fun w' o' h=>h.row;refine⟨fun FO=>?_,fun hz=>?_⟩
  · obtain⟨A,nn,cc,b1,b2,b3,b4,b5⟩:=hN;have hN:iH w3 g (l.drop p) ok:=⟨A,nn,cc,b1,b2,b3,b4,b5⟩;refine⟨_,rfl,ok,by rw[aP];exact aB b1 1,fun hok=>?_,fun hok=>?_⟩
    · subst hok;have Ge:aQ (l.drop p):=fun x hx=>hb x (List.mem_of_mem_drop hx);refine(nL (most:=256) hN Ge (by simp;omega) (by omega)).mono fun ev w4 hh=>?_;obtain⟨rfl,PP,k4⟩:=hh;have LJ:=fy (most:=256) (b:=l.drop p) (fun x hx=>(Ge x hx).1);obtain⟨v,q,e,hv⟩:∃ v q e,cY 256 (l.drop p)=(v,q,e):=⟨_,_,_,rfl⟩;rw[hv]at LJ PP ⊢;simp only[Bool.true_and]at LJ PP ⊢;rw[List.drop_drop]at PP;have GJ:cV w4 w.heap.size 3 256 (aS out):=ho.of_heap (k4.block _ ho.lt (by omega));have K4:Kp w w4 (fun k=>k=g):=K3.then k4 (fun k _ e=>e);obtain⟨A4,n4,c4,d1,d2,d3,d4,d5⟩:=PP;have Js:∀ ls tail,nw l ls tail->∃(x:Int)(i:Nat),v=(i:Int)/\e=0/\k+i<256/\0<=x/\x<=15/\l.drop (p+q)=bX x.toNat++(dt (ls.drop (k+i+1)) (k+i+1) (k+i+1)++tail)/\out.set (k+i) x=nU ls (k+i+1)/\n-1=(cH (ls.drop (k+i+1)):Int):=by
        intro ls tail hd;obtain⟨_,c1,c2,c3⟩:=hc ls tail hd;obtain⟨i,x,r1,s1,s2,s3,s4,s5,s6,s7⟩:=nw.step hd.1 hd.2.1 hk c2 FO c3;have FM:=dW (most:=256) (n:=i) (by omega) (by omega) r1;rw[← s4,hv]at FM;have e1:v=(i:Int):=congrArg Prod.fst FM;have e2:q=(bX i).length:=congrArg (fun t=>t.2.1) FM;have e3:e=0:=congrArg (fun t=>t.2.2) FM;refine⟨x,i,e1,e3,s1,s2,s3,?_,by rw[c1];exact s6,s7⟩;rw[← List.drop_drop,s4,e2,List.drop_left,s5]
      refine⟨v,rfl,by omega,_,rfl,decide (e=0),by rw[aP];exact aB d1 1,fun he=>?_,fun he=>?_⟩
      · have SW:e=0:=by simpa using he
        have GS:=aG d1 1 (.bool (decide ((k:Int)+v<256)));have K5:Kp w4 (w4.setCell ⟨g,1,none⟩ (.bool (decide ((k:Int)+v<256)))) (fun k=>k=g):=bK (Kp.refl w4 _) rfl;have I9:=GJ.of_heap (K5.block _ GJ.lt (by omega));have KV:iH (w4.setCell ⟨g,1,none⟩ (.bool (decide ((k:Int)+v<256)))) g (l.drop (p+q)) (decide ((k:Int)+v<256)) :=
          ⟨A4,n4,c4,by simpa using GS,d2.kpE K5 (fun a ha=>(d5 a ha).imp (fun e=>by rw[e];rfl) (fun e=>by omega)),d3,d4,d5⟩
        refine⟨_,rfl,⟨_,by rw[aP];exact aB d1 1⟩,by rw[aP];exact aD d1 1,_,rfl,decide ((k:Int)+v<256),?_,fun FE=>?_,fun FJ=>?_⟩
        · rw[aP];simpa using aB GS 1
        · rw[aP];have Iw:(k:Int)+v<256:=by simpa using FE
          rw[FE]at KV;simp only[FE]at I9 KV K5 ⊢;have KP:aQ (l.drop (p+q)):=fun x hx=>hb x (List.mem_of_mem_drop hx);refine(nL (most:=15) KV KP (by simp;omega) (by omega)).mono fun ev w6 hh=>?_;obtain⟨rfl,Wz,k6⟩:=hh;have HG:=I9.of_heap (k6.block _ I9.lt (by omega));have tv:((k:Int)+v).toNat=k+v.toNat:=by omega
          have FK:=HG.cell (j:=k+v.toNat) (u:=.int .i64 (out.getD (k+v.toNat) 0)) (nM (by omega));refine⟨_,rfl,by omega,_,rfl,by omega,by omega,?_,?_,by omega,(n-1).toNat,by omega,?_⟩
          · rw[tv];exact⟨_,FK⟩
          · exact HG.notFrozen (aK _ _)
          · rw[tv];have Gh:=HG.set (j:=k+v.toNat) (by rw[List.length_map];omega) (.int .i64 (cY 15 (l.drop (p+q))).1);rw[pS]at Gh;have K6:Kp w (w6.setCell ((⟨w.heap.size,0,none⟩:Addr).add (k+v.toNat)) (.int .i64 (cY 15 (l.drop (p+q))).1)) (fun k=>k=g):=((K4.then K5 (fun k _ e=>e)).then k6 (fun k _ e=>e)).set (.inl (by rw[aK];exact Nat.le_refl _)) _;have Tt:=Wz.kp (S:=fun k=>k=w.heap.size) (set2 (b:=w.heap.size) (j:=k+v.toNat) (u:=.int .i64 (cY 15 (l.drop (p+q))).1) (Kp.refl w6 _) rfl) (fun k hk e=>by omega);rw[List.drop_drop]at Tt;refine⟨_,k+v.toNat+1,out.set (k+v.toNat) (cY 15 (l.drop (p+q))).1,_,by omega,by omega,rfl,by omega,by omega,Gh,by simp;omega,Tt,K6,?_⟩;intro ls tail hd;obtain⟨x,i,a1,a2,a3,a4,a5,a6,a7,a8⟩:=Js ls tail hd;have FM:=dW (most:=15) (n:=x.toNat) (by omega) (by omega) (dt (ls.drop (k+i+1)) (k+i+1) (k+i+1)++tail);rw[← a6]at FM;have ti:v.toNat=i:=by omega
            rw[FM,ti];refine⟨by simp,?_,a8,?_⟩
            · show out.set (k+i) ((x.toNat:Nat):Int)=_;rw[show((x.toNat:Nat):Int)=x by omega];exact a7
            · show l.drop (p+q+(bX x.toNat).length)=_;rw[← List.drop_drop,a6,List.drop_left]
        · rw[aP];simp only[FJ]at I9 KV K5 ⊢;refine⟨by omega,(n-1).toNat,by omega,p+q,k,out,false,rfl,hk,rfl,by omega,by omega,I9,G0,KV,K4.then K5 (fun k _ e=>e),?_⟩;intro ls tail hd;obtain⟨x,i,a1,a2,a3,_⟩:=Js ls tail hd;exfalso;have:decide ((k:Int)+v<256)=true:=by simp;omega
          rw[FJ]at this;cases this
      · have GS:=aG d1 1 (.bool false);have K5:Kp w4 (w4.setCell ⟨g,1,none⟩ (.bool false)) (fun k=>k=g):=bK (Kp.refl w4 _) rfl;have I9:=GJ.of_heap (K5.block _ GJ.lt (by omega));have KV:iH (w4.setCell ⟨g,1,none⟩ (.bool false)) g (l.drop (p+q)) false :=
          ⟨A4,n4,c4,by simpa using GS,d2.kpE K5 (fun a ha=>(d5 a ha).imp (fun e=>by rw[e];rfl) (fun e=>by omega)),d3,d4,d5⟩
        refine⟨_,rfl,⟨_,by rw[aP];exact aB d1 1⟩,by rw[aP];exact aD d1 1,_,rfl,false,?_,fun h=>(by cases h),fun _=>?_⟩
        · rw[aP];simpa using aB GS 1
        · rw[aP];refine⟨by omega,(n-1).toNat,by omega,p+q,k,out,false,rfl,hk,rfl,by omega,by omega,I9,G0,KV,K4.then K5 (fun k _ e=>e),?_⟩;intro ls tail hd;obtain⟨x,i,a1,a2,_⟩:=Js ls tail hd;exfalso;have:decide (e=0)=true:=by simpa using a2
          rw[he]at this;cases this
    · exact⟨_,_,out,ok,p,rfl,fin w3 out ho,G0,hN,K3,fun ls tail hd=>by have:=(hc ls tail hd).1;rw[hok]at this;cases this⟩
  · refine⟨_,_,out,ok,p,rfl,fin w3 out ho,G0,hN,K3,fun ls tail hd=>?_⟩;obtain⟨c0,c1,c2,c3⟩:=hc ls tail hd;have MS:cH (ls.drop k)=0:=by omega
    obtain⟨h1,h2⟩:=m9 (ls.drop k) k k MS;rw[h1,List.nil_append]at c3;refine⟨c0,?_,c3⟩;rw[c1];exact xH hd.1 (fun v hv=>(hd.2.1 v hv).1) hk h2
end Go.Proofs.YtlieaecnllkefaaGreat
/-! archipelagoref5's lengths: the walk. -/
namespace Go.Proofs.YtlieaecnllkefaaGreat
open Go Go.V Go.RowKit
abbrev Fq:Value:=.tuple #[.slice none 0 0,.int .i64 0,.bool false]
theorem xV{w:World}{A:OA}{n c:Nat}{l:List Int}(hr:aZ w A (bV l))(hn:n=l.length)(hc:n<=c)(hb:aQ l)(hl:l.length<=2^40):
    Calls P 89 #[.slice A n c] w fun ev w'=>w.grownBy w' none/\((ev=.returned Fq/\∀ ls tail,¬ nw l ls tail) ∨
      ∃(A':OA)(c':Nat)(out:List Int)(p:Nat),ev=.returned (.tuple #[.slice A' 256 c',.int .i64 (p:Int),.bool true])/\cP w' w.heap.size 3 A' 256 c' (aS out)/\out.length=256/\p<=l.length/\∀ ls tail,nw l ls tail->out=ls/\l.drop p=tail):=by
  apply vc89;dsimp only[VC89,rt,Wt,Br,Ix,iq]
  try simp only[aF]
  refine(fL (most:=256) hr hn hb (by omega)).mono fun ev w1 hh=>?_;obtain⟨rfl,g1⟩:=hh;have ht:=fy (most:=256) (b:=l) (fun x hx=>(hb x hx).1);have FM:∀ ls tail,nw l ls tail->cY 256 l=((cH ls:Int),(bX (cH ls)).length,0):=by
    rintro ls tail ⟨HK,hr,he⟩;have Qq:=jt ls;have:=dW (most:=256) (n:=cH ls) (by omega) (by omega) (dt ls 0 0++tail);rw[← he]at this;exact this
  obtain⟨N,k0,e0,hv⟩:∃ v k e,cY 256 l=(v,k,e):=⟨_,_,_,rfl⟩;rw[hv]at ht FM ⊢;simp only at ht ⊢;refine⟨N,(k0:Int),e0,rfl,fun he=>⟨g1,.inl ⟨by trivial,fun ls tail hd=>?_⟩⟩,fun he=>?_⟩
  · have:=congrArg (fun t=>t.2.2) (FM ls tail hd);exact he this
  have he:e0=0:=by omega
  obtain⟨w2,HF,FF,g2⟩:=il (P:=P) (w:=w1) iD (by omega) (m:=256) (by omega);have GQ:=aA g1 g2;refine⟨_,_,_,w2,HF,?_⟩;refine⟨fun m at_ s i w3=>∃(p k j:Nat)(out:List Int),at_=(p:Int)/\s=(k:Int)-1/\i=(j:Int)/\p<=l.length/\k<=256/\m=N.toNat-j/\(j:Int)<=N/\cV w3 w1.heap.size 3 256 (aS out)/\out.length=256/\w2.grownBy w3 (some w1.heap.size)/\∀ ls tail,nw l ls tail->out=nU ls k/\N-j=(cH (ls.drop k):Int)/\l.drop p=dt (ls.drop k) k k++tail,
    ⟨_,k0,0,0,List.replicate 256 0,rfl,by omega,by omega,by omega,by omega,rfl,by omega,by simpa[aS]using FF,by simp,aC _ _,?_⟩,?_⟩
  · intro ls tail hd;have h1:=FM ls tail hd;have e1:N=(cH ls:Int):=congrArg Prod.fst h1;have e2:k0=(bX (cH ls)).length:=congrArg (fun t=>t.2.1) h1;refine⟨(vA ls).symm,by simp;omega,?_⟩;rw[e2,hd.2.2];simp
  rintro m at_ s i w3 ⟨p,k,j,out,rfl,rfl,rfl,hp,hk,rfl,SK,ho,G0,hg,Kq⟩;have hA:∀ a,A=some a->l=[]∨a.block<w.heap.size:=fun a ha=>by
    by_cases e:l=[]
    · exact .inl e
    · obtain⟨q,q1,q2⟩:=hr.blk (by simpa using e);rw[ha]at q1;cases q1;exact .inr q2
  have Q3:w.grownBy w3 none:=aN GQ hg (fun k hk=>by cases hk;exact g1.size);have tp:(p:Int).toNat=p:=by omega
  refine⟨fun FE=>?_,fun FJ=>?_⟩
  · rw[tp];have r3:aZ w3 A (bV l):=hr.kept_none Q3;have Ge:aQ (l.drop p):=fun x hx=>hb x (List.mem_of_mem_drop hx);refine⟨⟨by omega,by omega⟩,?_⟩;refine(fL (most:=255) (kV (c:=c) (k:=p) r3 (by omega)) (by simp;omega) Ge (by omega)).mono fun ev w4 hh=>?_;obtain⟨rfl,g4⟩:=hh;have LJ:=fy (most:=255) (b:=l.drop p) (fun x hx=>(Ge x hx).1);obtain⟨v,q,e,La⟩:∃ v q e,cY 255 (l.drop p)=(v,q,e):=⟨_,_,_,rfl⟩;have Js:∀ ls tail,nw l ls tail->∃(x:Int)(i:Nat),v=(i:Int)/\e=0/\k+i<256/\0<=x/\x<=15/\l.drop (p+q)=bX x.toNat++(dt (ls.drop (k+i+1)) (k+i+1) (k+i+1)++tail)/\out.set (k+i) x=nU ls (k+i+1)/\N-j-1=(cH (ls.drop (k+i+1)):Int):=by
      intro ls tail hd;obtain⟨c1,c2,c3⟩:=Kq ls tail hd;obtain⟨i,x,r1,s1,s2,s3,s4,s5,s6,s7⟩:=nw.step hd.1 hd.2.1 hk c2 (by omega) c3;have FM:=dW (most:=255) (n:=i) (by omega) (by omega) r1;rw[← s4,La]at FM;have e1:v=(i:Int):=congrArg Prod.fst FM;have e2:q=(bX i).length:=congrArg (fun t=>t.2.1) FM;have e3:e=0:=congrArg (fun t=>t.2.2) FM;refine⟨x,i,e1,e3,s1,s2,s3,?_,by rw[c1];exact s6,s7⟩;rw[← List.drop_drop,s4,e2,List.drop_left,s5]
    rw[La]at LJ ⊢;simp only[List.length_drop]at LJ ⊢;have gf4:=aA Q3 g4;refine⟨v,(q:Int),e,rfl,fun he=>⟨gf4,.inl ⟨by trivial,fun ls tail hd=>?_⟩⟩,fun he=>?_⟩
    · obtain⟨x,i,a1,a2,_⟩:=Js ls tail hd;exact he a2
    have he:e=0:=by omega
    have tpq:((p:Int)+(q:Int)).toNat=p+q:=by omega
    rw[tpq];refine⟨by omega,⟨by omega,by omega⟩,?_⟩;have KP:aQ (l.drop (p+q)):=fun x hx=>hb x (List.mem_of_mem_drop hx);refine(fL (most:=15) (kV (c:=c) (k:=p+q) (r3.kept_none g4) (by omega)) (by simp;omega) KP (by omega)).mono fun ev w5 hh=>?_;obtain⟨rfl,g5⟩:=hh;have Sm:=fy (most:=15) (b:=l.drop (p+q)) (fun x hx=>(KP x hx).1);obtain⟨v5,q5,e5,Si⟩:∃ v' q' e',cY 15 (l.drop (p+q))=(v',q',e'):=⟨_,_,_,rfl⟩;have Rn:∀ ls tail,nw l ls tail->∃(i:Nat),v=(i:Int)/\e5=0/\k+i<256/\l.drop (p+q+q5)=dt (ls.drop (k+i+1)) (k+i+1) (k+i+1)++tail/\out.set (k+i) v5=nU ls (k+i+1)/\N-j-1=(cH (ls.drop (k+i+1)):Int):=by
      intro ls tail hd;obtain⟨x,i,a1,a2,a3,a4,a5,a6,a7,a8⟩:=Js ls tail hd;have FM:=dW (most:=15) (n:=x.toNat) (by omega) (by omega) (dt (ls.drop (k+i+1)) (k+i+1) (k+i+1)++tail);rw[← a6,Si]at FM;have e1:v5=((x.toNat:Nat):Int):=congrArg Prod.fst FM;have e2:q5=(bX x.toNat).length:=congrArg (fun t=>t.2.1) FM;have e3:e5=0:=congrArg (fun t=>t.2.2) FM;refine⟨i,a1,e3,a3,?_,?_,a8⟩
      · rw[← List.drop_drop,a6,e2,List.drop_left]
      · rw[show v5=x by omega];exact a7
    rw[Si]at Sm ⊢;simp only[List.length_drop]at Sm ⊢;have gf5:=aA gf4 g5;refine⟨v5,(q5:Int),e5,rfl,by omega,by omega,by omega,fun he=>⟨gf5,.inl ⟨by trivial,fun ls tail hd=>?_⟩⟩,fun VJ=>⟨fun Gp=>⟨gf5,.inl ⟨by trivial,fun ls tail hd=>?_⟩⟩,fun LN=>?_⟩⟩
    · obtain⟨i,a1,a2,_⟩:=Rn ls tail hd;exact he a2
    · obtain⟨i,a1,a2,a3,_⟩:=Rn ls tail hd;omega
    have VJ:e5=0:=by omega
    have tv:((k:Int)-1+(v+1)).toNat=k+v.toNat:=by omega
    have I9:cV w5 w1.heap.size 3 256 (aS out):=(ho.kept_none g4).kept_none g5;have FK:=I9.cell (j:=k+v.toNat) (u:=.int .i64 (out.getD (k+v.toNat) 0)) (nM (by omega));have Gh:=I9.set (j:=k+v.toNat) (by rw[List.length_map];omega) (.int .i64 v5);rw[pS]at Gh;refine⟨by omega,by omega,_,rfl,by omega,by omega,⟨_,by rw[tv];exact FK⟩,I9.notFrozen (aK _ _),by omega,N.toNat-(j+1),by omega,?_⟩;rw[tv];refine⟨p+q+q5,k+v.toNat+1,j+1,out.set (k+v.toNat) v5,by omega,by omega,by omega,by omega,by omega,rfl,by omega,Gh,by simp;omega,bD (aA (aA hg (bF g4)) (bF g5)) (aK _ _) _,?_⟩;intro ls tail hd;obtain⟨i,a1,a2,a3,a4,a5,a6⟩:=Rn ls tail hd;have ti:v.toNat=i:=by omega
    rw[ti];exact⟨a5,by omega,a4⟩
  · have h5:=ho.ownsRow (base:=w.heap.size) g1.size (by simp only[maxLen];omega);have Lo:(aS out).length=256:=by rw[List.length_map,G0]
    rw[Lo]at h5;refine⟨Q3,.inr ⟨_,_,out,p,rfl,h5,G0,hp,fun ls tail hd=>?_⟩⟩;obtain⟨c1,c2,c3⟩:=Kq ls tail hd;have MS:cH (ls.drop k)=0:=by omega
    obtain⟨h1,h2⟩:=m9 (ls.drop k) k k MS;rw[h1,List.nil_append]at c3;exact⟨by rw[c1];exact xH hd.1 (fun v hv=>(hd.2.1 v hv).1) hk h2,c3⟩
end Go.Proofs.YtlieaecnllkefaaGreat
/-! huff.Read: the walk. -/
namespace Go.Proofs.YtlieaecnllkefaaGreat
open Go Go.V Go.RowKit
theorem na:∀(l:List Int)(s nx:Nat),aQ (dt l s nx)
 | [],s,nx=>by intro y hy;simp[dt]at hy
 | x ::l,s,nx=>by
  rw[dt];split
  ·intro y hy;rcases List.mem_append.1 hy with e | e
   ·exact gm _ y e
   ·rcases List.mem_append.1 e with e | e
    ·exact gm _ y e
    ·exact na l _ _ y e
  ·exact na l _ _
theorem iU(b:List Int):aQ (cy b):=by
 unfold cy;split
 ·exact gm 0
 ·intro y hy;rcases List.mem_append.1 hy with e | e
  ·exact gm _ y e
  ·rcases List.mem_append.1 e with e | e
   ·exact gm _ y e
   ·rcases List.mem_append.1 e with e | e
    ·exact na _ _ _ y e
    ·exact ru _ y e
abbrev BF:Value:=.tuple #[.slice none 0 0,.int .i64 21]
theorem C5{w:World}{b s n c:Nat}{e:TypeId}{A:OA}{xs:List Value}(h:aE w b e s A n c xs):n<=c:=by
 obtain⟨_,⟨_,e1,e2,_⟩ | ⟨g,cur,_,_,_,e,_⟩⟩:=h.cases
 ·omega
 ·exact e
def sp(x:List Int)(ev:Ending)(w':World):Prop :=
 (∃(A':OA)(n' c':Nat)(o:List Int),ev=.returned (.tuple #[.slice A' n' c',.int .i64 0])/\aZ w' A' (bV o)/\(n'=o.length/\n'<=c')/\aQ o/\o.length<=2^20/\cy o=x) ∨
 (ev=.returned BF/\∀ o,aQ o->o.length<2^62->cy o≠x)
theorem vM{w:World}{A B:OA}{n c m d:Nat}{x o:List Int}{R:Ending->World->Prop}{bad good:Ending}(hA:aZ w A (bV x))(hn:n=x.length)(hb:aQ x)(hB:aZ w B (bV o))(hm:m=o.length)(I4:aQ o)(hl:m<=2^20)
    (HB:cy o≠x->∀ w',w.grownBy w' none->R bad w') (HO:cy o=x->∀ w',w.grownBy w' none->R good w') :
    Calls P 69 #[.slice B m d] w fun ev w1=>∃(C:OA)(k e:Nat),ev=.returned (.slice C k e)/\Calls P 50 #[.slice C k e,.slice A n c] w1 fun ev2 w2=>∃ q:Bool,ev2=.returned (.bool q)/\((q=false->R bad w2)/\(¬ q=false->R good w2)):=by
  refine(pj hB hm I4 hl).mono fun ev w1 hh=>?_;obtain⟨C,k,e,rfl,oC,g1⟩:=hh;refine⟨_,_,_,rfl,?_⟩;refine(jk oC.row (cC oC) (hA.kept_none g1) hn (iU o) hb).mono fun ev w2 hh=>?_;obtain⟨rfl,rfl⟩:=hh;exact⟨_,rfl,fun h=>HB (by simpa using h) _ g1,fun h=>HO (by simpa using h) _ g1⟩
theorem Bf{o x:List Int}(ho:aQ o)(hl:o.length<2^62)(h:cy o=x){most:Int}(hm:2^62<=most):∃ k,cY most x=((o.length:Int),k,0)/\k<=x.length/\(o≠[]->nw (x.drop k) (j7 o) (dM (fu (j7 o) (er o)))):=by
 by_cases FG:o=[]
 ·subst FG;have:=dW (most:=most) (n:=0) (by omega) (by omega) [];rw[List.append_nil,show bX 0=x by simpa[cy]using h]at this;refine⟨_,by simpa using this,?_,fun e=>absurd rfl e⟩;rw[← show bX 0=x by simpa[cy]using h];exact Nat.le_refl _
 ·rw[cy,if_neg FG]at h;have:=dW (most:=most) (n:=o.length) (by omega) (by omega) (bX (cH (j7 o))++(dt (j7 o) 0 0++dM (fu (j7 o) (er o))));rw[h]at this;obtain⟨l1,r1,s1,v1⟩:=el ho FG;refine⟨_,this,?_,fun _=>⟨l1,v1,?_⟩⟩
  ·rw[← h,List.length_append];omega
  ·rw[← h,List.drop_left]
theorem m7 {w :World} {A:OA} {n c:Nat} {x:List Int} (hr:aZ w A (bV x)) (hn:n=x.length) (hc:n<=c) (hb:aQ x) (hl:x.length<=2^16) :
    Calls P 121 #[.slice A n c] w fun ev w'=>w.grownBy w' none/\sp x ev w':=by
  apply vc121;dsimp only[VC121,rt,Br,Bb,Rs,Ap,cI,cB,cS,nb,iq]
  try simp only[aF]
  have gal:=World.grownBy_alloc w (.cells #[.slice A n c,.bool true] 236) none;have Pj:∀ a,A=some a->x=[]∨a.block<w.heap.size:=fun a ha=>by
    by_cases e:x=[]
    · exact .inl e
    · obtain⟨q,q1,q2⟩:=hr.blk (by simpa using e);rw[ha]at q1;cases q1;exact .inr q2
  have WA:iH (w.alloc (.cells #[.slice A n c,.bool true] 236)) w.heap.size x true:=⟨A,n,c,heap_alloc_new w _,hr.kept_none gal,hn,hc,Pj⟩;refine(nL (most:=9223372036854775807) WA hb (by omega) (by omega)).mono fun ev w1 hh=>?_;obtain⟨rfl,Ng,k1⟩:=hh;have K1:Kp w w1 (fun k=>w.heap.size<=k):=(Kp.of_none gal).then k1 (fun k _ e=>by omega);have keepX:∀ w',Kp w w' (fun k=>w.heap.size<=k)->aZ w' A (bV x):=fun w' K=>hr.kpE K (fun a ha=>(Pj a ha).imp (fun e=>by rw[e];rfl) (fun e=>by omega));have grw:∀ w',Kp w w' (fun k=>w.heap.size<=k)->w.grownBy w' none:=fun w' K=>K.grown (fun k hk e=>by omega);have ht:=fy (most:=9223372036854775807) (b:=x) (fun y hy=>(hb y hy).1);have hO:∀ o,aQ o->o.length<2^62->cy o=x->∃ k,cY 9223372036854775807 x=((o.length:Int),k,0)/\k<=x.length/\(o≠[]->nw (x.drop k) (j7 o) (dM (fu (j7 o) (er o)))):=fun o h1 h2 h3=>Bf h1 h2 h3 (by omega);obtain⟨N,k0,e0,hv⟩:∃ v k e,cY 9223372036854775807 x=(v,k,e):=⟨_,_,_,rfl⟩;rw[hv]at ht hO Ng ⊢;simp only[Bool.true_and]at ht Ng ⊢;obtain⟨A1,n1,c1,b1,b2,b3,b4,b5⟩:=Ng;have Ng:iH w1 w.heap.size (x.drop k0) (decide (e0=0)):=⟨A1,n1,c1,b1,b2,b3,b4,b5⟩;have FK:w1.cell? ((⟨w.heap.size,0,none⟩:Addr).add 1)=some (.bool (decide (e0=0))):=by rw[aP];exact aB b1 1
  have Ge:aQ (x.drop k0):=fun y hy=>hb y (List.mem_of_mem_drop hy);refine⟨N,rfl,_,rfl,decide (e0=0),FK,fun hok=>⟨fun FO=>?_,fun hz=>?_⟩,fun hok=>?_⟩
  · have SW : e0=0:=by simpa using hok
    rw[hok]at Ng;have Jv:∀ o,aQ o->o.length<2^62->cy o=x->(o.length:Int)=N/\o≠[]/\nw (x.drop k0) (j7 o) (dM (fu (j7 o) (er o))):=by
      intro o h1 h2 h3;obtain⟨k,e1,e2,e3⟩:=hO o h1 h2 h3;have a1:N=(o.length:Int):=congrArg Prod.fst e1;have a2:k0=k:=congrArg (fun t=>t.2.1) e1;have FG:o≠[]:=fun e=>by rw[e]at a1;simp at a1;omega
      subst a2;exact⟨a1.symm,FG,e3 FG⟩
    refine(zY Ng Ge (by simp;omega)).mono fun ev w2 hh=>?_;obtain⟨A2,c2,ls,ok,p,rfl,r2,HK,RH,k2,Hk⟩:=hh;have K2:Kp w w2 (fun k=>w.heap.size<=k):=K1.then k2 (fun k _ e=>by omega);refine⟨_,_,_,rfl,?_⟩;refine(vW (ls:=ls) r2 HK.symm (by omega)).mono fun ev w3 hh=>?_;obtain⟨g3,OU⟩:=hh;have K3:Kp w w3 (fun k=>w.heap.size<=k):=K2.step g3 (fun k hk=>by cases hk);have PQ:iH w3 w.heap.size ((x.drop k0).drop p) ok:=RH.kp (S:=fun _=>False) (Kp.of_none g3) (fun _ _ h=>h);obtain⟨A3,n3,c3,d1,d2,d3,d4,d5⟩:=PQ;have PQ:iH w3 w.heap.size ((x.drop k0).drop p) ok:=⟨A3,n3,c3,d1,d2,d3,d4,d5⟩;have J2:w3.cell? ((⟨w.heap.size,0,none⟩:Addr).add 1)=some (.bool ok):=by rw[aP];exact aB d1 1
    have Gb:=grw w3 K3;have J7:ok=false->sp x (.returned BF) w3:=fun h=>.inr ⟨rfl,fun o h1 h2 h3=>by
      obtain⟨_,_,a3⟩:=Jv o h1 h2 h3;have:=(Hk _ _ a3).1;rw[h]at this;cases this⟩
    rcases OU with⟨hf,rfl⟩ | ⟨hR,gt,rfl,hT⟩
    · refine⟨_,_,rfl,_,rfl,ok,J2,fun h=>⟨Gb,J7 h⟩,fun h=>⟨fun _=>⟨Gb,.inr ⟨rfl,fun o h1 h2 h3=>?_⟩⟩,fun h=>absurd rfl h⟩⟩;obtain⟨_,a2,a3⟩:=Jv o h1 h2 h3;have e:=(Hk _ _ a3).2.1;rw[e,(el h1 a2).2.1]at hf;cases hf
    refine⟨_,_,rfl,_,rfl,ok,J2,fun h=>⟨Gb,J7 h⟩,fun Jl=>⟨fun h=>(by cases h),fun _=>?_⟩⟩;have Sz:ok=true:=by simpa using Jl
    generalize It:(x.drop k0).drop p=rest at *;have Hw:rest.length<=x.length:=by rw[← It];simp only[List.length_drop];omega
    have NO:aQ rest:=fun y hy=>by rw[← It]at hy;exact hb y (List.mem_of_mem_drop (List.mem_of_mem_drop hy))
    refine⟨_,rfl,_,_,_,aB d1 0,?_⟩;have glt:=PQ.lt;refine(sB d2 d3 (fun a ha=>(d5 a ha).imp id (fun e=>by omega))).mono fun ev w4 hh=>?_;obtain⟨rfl,Pb,g4⟩:=hh;have l34:w3.heap.size<w4.heap.size:=(Array.getElem?_eq_some_iff.1 Pb.blk).1;refine⟨_,rfl,?_⟩
    refine⟨fun m n' Ao no co w5=>∃(j at_:Nat)(out:List Int),n'=N-(j:Int)/\(j:Int)<=N/\m=(N-(j:Int)).toNat/\out.length=j/\j<=at_/\aQ out/\aE w5 w4.heap.size 5 1 Ao no co (bV out)/\jn w5 w3.heap.size A3 n3 c3 rest at_/\Kp w3 w5 (fun k=>w3.heap.size<=k)/\w4.heap.size<=w5.heap.size ∧
        ∀ o,aQ o->o.length<2^62->cy o=x->(∃ r,(aM rest).drop at_=fu ls (er (o.drop j))++r)/\out=o.take j,
      ⟨_,0,0,[],by omega,by omega,rfl,rfl,by omega,(fun y hy=>by cases hy),aE.nil _ _ _ _,Pb,Kp.of_none g4,Nat.le_refl _,fun o h1 h2 h3=>?_⟩,?_⟩
    · obtain⟨a1,a2,a3⟩:=Jv o h1 h2 h3;obtain⟨_,e1,e2⟩:=Hk _ _ a3;refine⟨?_,by simp⟩;rw[e2,fj,e1];exact⟨_,rfl⟩
    rintro m n' Ao no co w5 ⟨j,at_,out,rfl,SK,rfl,G0,Ma,I4,ho,Pa,K5,s45,J3⟩;have K05:Kp w w5 (fun k=>w.heap.size<=k):=K3.then K5 (fun k hk e=>by have:=K3.size;omega);have Vc:=Pa.le;have GK:=cC ho;refine⟨fun FE=>?_,fun FJ=>?_⟩
    · have Wo :qh w5 w3.heap.size gt ls:=hT.kp K5 (fun k hk e=>by omega);refine(u7 Wo (Nat.le_refl _) Pa (by omega) NO hR).mono fun ev w6 hh=>?_;obtain⟨rfl,Ju,k6⟩:=hh;have K06:Kp w w6 (fun k=>w.heap.size<=k):=K05.then k6 (fun k _ e=>by have:=K3.size;omega);cases hq:fS ls 15 0 0 ((aM rest).drop at_)with
      | none =>
        have JI:fk ls rest at_=(.tuple #[.int .i64 0,.bool false],at_):=by unfold fk;rw[hq]
        rw[JI];refine⟨_,_,rfl,fun _=>⟨grw w6 K06,.inr ⟨rfl,fun o h1 h2 h3=>?_⟩⟩,fun h=>absurd rfl h⟩;obtain⟨a1,a2,a3⟩:=Jv o h1 h2 h3;obtain⟨_,e1,e2⟩:=Hk _ _ a3;obtain⟨⟨r,f1⟩,f2⟩:=J3 o h1 h2 h3;have hj:j<o.length:=by omega
        rw[List.drop_eq_getElem_cons hj]at f1;have hs:=(el h1 a2).2.2.1 o[j].toNat (by simp only[er];exact List.mem_map_of_mem (List.getElem_mem hj));rw[← e1]at hs;rw[er,List.map_cons,gP,List.append_assoc]at f1;rw[f1,jA hR hs]at hq;cases hq
      | some sk =>
        obtain⟨s,k⟩:=sk;have JI:fk ls rest at_=(.tuple #[.int .i64 (s:Int),.bool true],at_+k):=by unfold fk;rw[hq]
        rw[JI]at Ju ⊢;have FI:=qz _ _ _ _ _ _ _ hq;have HG:=ho.kp k6 (fun k hk e=>by have:=ho.block_ge k hk;omega);refine⟨_,_,rfl,fun h=>(by cases h),fun _=>?_⟩;have QI:=Ju.le;obtain⟨A7,n7,c7,w7,e1,e2,e3,e4⟩:=eP (x:=(s:Int)) HG (by omega) (Nat.le_trans s45 k6.size);refine⟨by omega,_,_,_,w7,e1,by omega,(N-((j+1:Nat):Int)).toNat,by omega,j+1,at_+k,out++[(s:Int)],by omega,by omega,rfl,by simp;omega,by omega,?_,e2,?_,?_,?_,?_⟩
        · intro y hy;rcases List.mem_append.1 hy with e | e
          · exact I4 y e
          · have:y=(s:Int):=by simpa using e
            omega
        · refine Ju.kp (Kp.of_grown e3) (fun e=>by have:=HG.block_ge _ e.symm;omega) (fun a ha=>(d5 a ha).imp id (fun e1 e=>by have:=HG.block_ge _ e.symm;omega))
        · exact(K5.then k6 (fun k _ e=>by omega)).step e3 (fun k hk=>.inr (by have:=HG.block_ge _ hk;omega))
        · exact Nat.le_trans s45 (Nat.le_trans k6.size e3.size)
        · intro o h1 h2 h3;obtain⟨a1,a2,a3⟩:=Jv o h1 h2 h3;obtain⟨_,q1,q2⟩:=Hk _ _ a3;obtain⟨⟨r,f1⟩,f2⟩:=J3 o h1 h2 h3;have hj:j<o.length:=by omega
          rw[List.drop_eq_getElem_cons hj]at f1;have hs:=(el h1 a2).2.2.1 o[j].toNat (by simp only[er];exact List.mem_map_of_mem (List.getElem_mem hj));rw[← q1]at hs;rw[er,List.map_cons,gP,List.append_assoc]at f1;rw[f1,jA hR hs]at hq;have s1:o[j].toNat=s:=by simpa using congrArg (fun q=>q.map Prod.fst) hq
          have s2:(ln ls o[j].toNat).toNat=k:=by simpa using congrArg (fun q=>q.map Prod.snd) hq
          have Jm:=h1 _ (List.getElem_mem hj);refine⟨⟨r,?_⟩,?_⟩
          · rw[← List.drop_drop,f1,← s2];have:(cF (cd ls o[j].toNat) (ln ls o[j].toNat).toNat).length=(ln ls o[j].toNat).toNat:=dS _ _;rw[show(cF (cd ls o[j].toNat) (ln ls o[j].toNat).toNat++(fu ls (List.map Int.toNat (o.drop (j+1)))++r)).drop (ln ls o[j].toNat).toNat=(fu ls (List.map Int.toNat (o.drop (j+1)))++r) by
              conv=>lhs;arg 1;rw[← this]
              exact List.drop_left]
          · rw[List.take_succ_eq_append_getElem hj,← f2];congr 2;omega
    · have QR:(j:Int)=N:=by omega
      have KV:=PQ.kp K5 (fun k hk e=>by omega);obtain⟨A5,n5,c5,q1,q2,q3,q4,q5⟩:=KV;refine⟨_,rfl,ok,by rw[aP];exact aB q1 1,fun h=>absurd h Jl,fun _=>?_⟩;refine vM (R:=fun ev w'=>w.grownBy w' none/\sp x ev w') (keepX w5 K05) hn hb ho.row GK I4 (by omega) (fun FG w' g=>⟨aA (grw w5 K05) g,.inr ⟨rfl,fun o h1 h2 h3=>?_⟩⟩) (fun he w' g=>⟨aA (grw w5 K05) g,.inl ⟨_,_,_,out,rfl,(ho.kept g).row,⟨GK,C5 ho⟩,I4,by omega,he⟩⟩);obtain⟨a1,a2,a3⟩:=Jv o h1 h2 h3;have f2:=(J3 o h1 h2 h3).2;rw[List.take_of_length_le (by omega)]at f2;rw[← f2]at h3;exact FG h3
  · refine⟨_,rfl,decide (e0=0),FK,fun h=>(by rw[hok]at h;cases h),fun _=>?_⟩;refine vM (R:=fun ev w'=>w.grownBy w' none/\sp x ev w') (o:=[]) (keepX w1 K1) hn hb (aZ.nil _ _) rfl (fun y hy=>by cases hy) (by omega) (fun FG w' g=>⟨aA (grw w1 K1) g,.inr ⟨rfl,fun o h1 h2 h3=>?_⟩⟩) (fun he w' g=>⟨aA (grw w1 K1) g,.inl ⟨_,_,_,[],rfl,aZ.nil _ _,⟨rfl,Nat.le_refl _⟩,(fun y hy=>by cases hy),by simp,he⟩⟩);obtain⟨k,e1,_⟩:=hO o h1 h2 h3;have a1:N=(o.length:Int):=congrArg Prod.fst e1;have:o=[]:=List.eq_nil_of_length_eq_zero (by omega);rw[this]at h3;exact FG h3
  · refine⟨_,rfl,decide (e0=0),FK,fun h=>⟨grw w1 K1,.inr ⟨rfl,fun o h1 h2 h3=>?_⟩⟩,fun h=>absurd hok h⟩;obtain⟨k,e1,_⟩:=hO o h1 h2 h3;have a1:e0=0:=congrArg (fun t=>t.2.2) e1;rw[a1]at hok;simp at hok
end Go.Proofs.YtlieaecnllkefaaGreat
/-! archipelagoref5.Read: the walk. -/
namespace Go.Proofs.YtlieaecnllkefaaGreat
open Go Go.V Go.RowKit
theorem tE{w:World}{A B:OA}{n c m d:Nat}{x o:List Int}{R:Ending->World->Prop}{bad good:Ending}{s t:Operand}(hA:aZ w A (bV x))(hn:n=x.length)(hb:aQ x)(hB:aZ w B (bV o))(hm:m=o.length)(I4:aQ o)(hl:m<=2^20)
    (HB:cy o≠x->∀ w',w.grownBy w' none->R bad w') (HO:cy o=x->∀ w',w.grownBy w' none->R good w') :
    ∃ C:World->Prop,C w.drew/\Calls P 79 #[.slice B m d] w.drew fun ev w1=>∃(Y:OA)(k e:Nat),ev=.returned (.slice Y k e)/\(C w1/\∃ s1:ByteArray,Sem.run P (Go.convert 26 9 (.slice Y k e)) w1=.ok (.string s1) w1 ∧
      ∃ s2:ByteArray,(∀ w,C w->Sem.run P (Go.convert 26 9 (.slice A n c)) w=.ok (.string s2) w)/\∃ q:Bool,(∀ w,Sem.run P (do eqGuard .neq 9 s t (.string s1) (.string s2);Go.binOp .neq 9 (.string s1) (.string s2):Sem Value) w=.ok (.bool q) w)/\((q=true->R bad w1)/\(q=false->R good w1))):=by
  have gd:=aH (aC w none);refine⟨fun w'=>aZ w' A (bV x),hA.kept_none gd,?_⟩;refine(mL (hB.kept_none gd) hm I4 hl).mono fun ev w1 hh=>?_;obtain⟨C,k,e,rfl,oC,g1⟩:=hh;refine⟨_,_,_,rfl,(hA.kept_none gd).kept_none g1,_,dg oC.row (cC oC),_,fun w' h=>dg h hn,_,fun w=>kC _ _ _ _ w,fun h=>HB ?_ _ (aA gd g1),fun h=>HO ?_ _ (aA gd g1)⟩
  · intro e;rw[e]at h;simp at h
  · exact vE (iU o) hb (by simpa using h)
theorem Ds{ls:List Int}(hR:bY ls=true):∀ ss:List Nat,(∀ s∈ss,s<ls.length/\0<ln ls s)->ss.length<=(fu ls ss).length
 | [],_=>by simp
 | s ::ss,h=>by
  have ih:=Ds hR ss (fun t ht=>h t (by simp[ht]));have:=h s (by simp);rw[gP,List.length_append,dS,List.length_cons];omega
theorem kH{o x:List Int}(ho:aQ o)(h:cy o=x):o.length<=8*x.length:=by
 by_cases FG:o=[]
 ·subst FG;simp
 ·obtain⟨l1,r1,s1,v1⟩:=el ho FG;have h1:=Ds r1 (er o) s1;have h2:(dM (fu (j7 o) (er o))).length<=x.length:=by
   rw[← h,cy,if_neg FG];simp only[List.length_append];omega
  rw[bM]at h2;have h3:(er o).length=o.length:=by simp
  omega
theorem q8 {w :World} {A:OA} {n c:Nat} {x:List Int} (hr:aZ w A (bV x)) (hn:n=x.length) (hc:n<=c) (hb:aQ x) (hl:x.length<=2^16) :
    Calls P 52 #[.slice A n c] w fun ev w'=>w.grownBy w' none/\sp x ev w':=by
  apply vc52;dsimp only[VC52,rt,Br,Bb,Ap,Eg,Cv,cB,cS,nb,iq]
  try simp only[aF]
  have Pj:∀ a,A=some a->x=[]∨a.block<w.heap.size:=fun a ha=>by
    by_cases e:x=[]
    · exact .inl e
    · obtain⟨q,q1,q2⟩:=hr.blk (by simpa using e);rw[ha]at q1;cases q1;exact .inr q2
  refine(fL (most:=4611686018427387904) hr hn hb (by omega)).mono fun ev w1 hh=>?_;obtain⟨rfl,g1⟩:=hh;have ht:=fy (most:=4611686018427387904) (b:=x) (fun y hy=>(hb y hy).1);have hO:∀ o,aQ o->o.length<2^62->cy o=x->∃ k,cY 4611686018427387904 x=((o.length:Int),k,0)/\k<=x.length/\(o≠[]->nw (x.drop k) (j7 o) (dM (fu (j7 o) (er o)))):=fun o h1 h2 h3=>Bf h1 h2 h3 (by omega);obtain⟨N,k0,e0,hv⟩:∃ v k e,cY 4611686018427387904 x=(v,k,e):=⟨_,_,_,rfl⟩;rw[hv]at ht hO ⊢;simp only at ht ⊢;refine⟨N,(k0:Int),e0,rfl,fun he=>⟨g1,.inr ⟨rfl,fun o h1 h2 h3=>?_⟩⟩,fun he=>⟨by omega,by omega,fun Gp=>⟨g1,.inr ⟨rfl,fun o h1 h2 h3=>?_⟩⟩,fun LN=>⟨fun FO=>?_,fun hz=>?_⟩⟩⟩
  · obtain⟨k,e1,_⟩:=hO o h1 h2 h3;exact he (congrArg (fun t=>t.2.2) e1)
  · obtain⟨k,e1,_⟩:=hO o h1 h2 h3;have a1:N=(o.length:Int):=congrArg Prod.fst e1;have:=kH h1 h3;omega
  · have tk : (k0:Int).toNat=k0:=by omega
    rw[tk];have SW:e0=0:=by omega
    have Jv:∀ o,aQ o->o.length<2^62->cy o=x->(o.length:Int)=N/\o≠[]/\nw (x.drop k0) (j7 o) (dM (fu (j7 o) (er o))):=by
      intro o h1 h2 h3;obtain⟨k,e1,e2,e3⟩:=hO o h1 h2 h3;have a1:N=(o.length:Int):=congrArg Prod.fst e1;have a2:k0=k:=congrArg (fun t=>t.2.1) e1;have FG:o≠[]:=fun e=>by rw[e]at a1;simp at a1;omega
      subst a2;exact⟨a1.symm,FG,e3 FG⟩
    have Ge:aQ (x.drop k0):=fun y hy=>hb y (List.mem_of_mem_drop hy);refine⟨⟨by omega,by omega⟩,?_⟩;refine(xV (kV (c:=c) (k:=k0) (hr.kept_none g1) (by omega)) (by simp;omega) (by omega) Ge (by simp;omega)).mono fun ev w2 hh=>?_;obtain⟨g2,⟨rfl,GK⟩ | ⟨A2,c2,ls,p,rfl,o2,HK,hp,Hk⟩⟩:=hh
    · exact⟨_,_,_,_,_,rfl,fun _=>⟨aA g1 g2,.inr ⟨rfl,fun o h1 h2 h3=>GK _ _ (Jv o h1 h2 h3).2.2⟩⟩,fun h=>absurd rfl h⟩
    have GQ:=aA g1 g2;refine⟨_,_,_,_,_,rfl,fun h=>(by cases h),fun _=>?_⟩;refine(mM (ls:=ls) o2.row HK.symm).mono fun ev w3 hh=>?_;obtain⟨rfl,g3⟩:=hh;have FY:=aA GQ g3;refine⟨_,rfl,fun hf=>⟨FY,.inr ⟨rfl,fun o h1 h2 h3=>?_⟩⟩,fun Pc=>?_⟩
    · obtain⟨_,a2,a3⟩:=Jv o h1 h2 h3;have e:=(Hk _ _ a3).1;rw[e,(el h1 a2).2.1]at hf;cases hf
    have hR:bY ls=true:=by simpa using Pc
    refine(mO (ls:=ls) (o2.row.kept_none g3) HK.symm (by omega)).mono fun ev w4 hh=>?_;obtain⟨A4,n4,c4,rfl,o4,g4⟩:=hh;have Ij:=aA FY g4;have Rk:=eg hR;have IP:n4=ls.length:=by rw[o4.cases.1];simp[aS,Rk]
    have Jk:p<=x.length-k0:=by simpa using hp
    have tkp:((k0:Int)+(p:Int)).toNat=k0+p:=by omega
    refine⟨_,_,_,rfl,by omega,⟨by omega,by omega⟩,?_⟩;rw[tkp];have MQ:=kV (c:=c) (k:=k0+p) (hr.kept_none Ij) (by omega);have LP:x.drop (k0+p)=(x.drop k0).drop p:=by rw[List.drop_drop]
    rw[LP]at MQ;have NL:n-(k0+p)=((x.drop k0).drop p).length:=by rw[List.drop_drop,List.length_drop];omega
    have hX:∀ a,bB A c (k0+p) 1=some a->(x.drop k0).drop p=[]∨a.block<w.heap.size:=by
      intro a ha;obtain⟨a',e1,e2⟩:=qP ha;exact(Pj a' e1).imp (fun e=>by rw[e];simp) (fun e=>by omega)
    generalize It:(x.drop k0).drop p=rest at *;generalize bB A c (k0+p) 1=A5 at *;generalize n-(k0+p)=n5 at *;generalize c-(k0+p)=c5 at *;have Hw:rest.length<=x.length:=by rw[← It];simp only[List.length_drop];omega
    have NO:aQ rest:=fun y hy=>by rw[← It]at hy;exact hb y (List.mem_of_mem_drop (List.mem_of_mem_drop hy))
    have gw:=World.grownBy_alloc w4 (.cells #[.slice A5 n5 c5,.int .i64 0] 139) none;obtain⟨w5,LC⟩:∃ w5,w5=w4.alloc (.cells #[.slice A5 n5 c5,.int .i64 0] 139):=⟨_,rfl⟩;have s04:=Ij.size;have Pb:eU w5 w4.heap.size A5 n5 c5 rest 0:=by
      rw[LC];exact⟨by simpa using heap_alloc_new w4 (.cells #[.slice A5 n5 c5,.int .i64 0] 139),MQ.kept_none gw,NL,by omega,fun a ha=>(hX a ha).imp id (fun e=>by omega)⟩
    rw[← LC]at gw ⊢;have l45:w4.heap.size<w5.heap.size:=(Array.getElem?_eq_some_iff.1 Pb.blk).1;have L5:aZ w5 A2 (aS ls):=((o2.row.kept_none g3).kept_none g4).kept_none gw;have D5:aZ w5 A4 (aS (eF ls)):=o4.row.kept_none gw;have b2:∀ a,A2=some a->a.block<w4.heap.size:=fun a ha=>Nat.lt_of_lt_of_le (nK o2 a ha) (Nat.le_trans g3.size g4.size);have b4:∀ a,A4=some a->a.block<w4.heap.size:=nK o4
    refine⟨fun m Ao no co i w6=>∃(j at_:Nat)(out:List Int),i=(j:Int)/\(j:Int)<=N/\m=(N-(j:Int)).toNat/\out.length=j/\j<=at_/\aQ out/\aE w6 w5.heap.size 5 1 Ao no co (bV out)/\eU w6 w4.heap.size A5 n5 c5 rest at_/\Kp w5 w6 (fun k=>w4.heap.size<=k) ∧
        ∀ o,aQ o->o.length<2^62->cy o=x->(∃ r,(aM rest).drop at_=fu ls (er (o.drop j))++r)/\out=o.take j,
      ⟨_,0,0,[],rfl,by omega,rfl,rfl,by omega,(fun y hy=>by cases hy),aE.nil _ _ _ _,Pb,Kp.refl _ _,fun o h1 h2 h3=>?_⟩,?_⟩
    · obtain⟨a1,a2,a3⟩:=Jv o h1 h2 h3;obtain⟨e1,e2⟩:=Hk _ _ a3;refine⟨?_,by simp⟩;rw[e2,fj,e1];exact⟨_,rfl⟩
    rintro m Ao no co i w6 ⟨j,at_,out,rfl,SK,rfl,G0,Ma,I4,ho,Ju,K6,J3⟩;have K06:Kp w w6 (fun k=>w4.heap.size<=k):=(Kp.of_none (aA Ij gw)).then K6 (fun k _ e=>e);have grw:∀ w',Kp w w' (fun k=>w4.heap.size<=k)->w.grownBy w' none:=fun w' K=>K.grown (fun k hk e=>by omega);have QI:=Ju.le;have GK:=cC ho;refine⟨fun FE=>?_,fun FJ=>?_⟩
    · have L6 :aZ w6 A2 (aS ls):=L5.kp K6 (fun a ha _ e=>by have:=b2 a ha;omega);have D6:aZ w6 A4 (aS (eF ls)):=D5.kp K6 (fun a ha _ e=>by have:=b4 a ha;omega);refine(tg Ju (by omega) NO L6 HK.symm D6 IP hR (fun a ha e=>by have:=b2 a ha;omega) (fun a ha e=>by have:=b4 a ha;omega)).mono fun ev w7 hh=>?_;obtain⟨rfl,Mz,k7⟩:=hh;have K07:Kp w w7 (fun k=>w4.heap.size<=k):=K06.then k7 (fun k _ e=>by omega);cases hq:fS ls 15 0 0 ((aM rest).drop at_)with
      | none =>
        have JI:fk ls rest at_=(.tuple #[.int .i64 0,.bool false],at_):=by unfold fk;rw[hq]
        rw[JI];refine⟨_,_,rfl,fun _=>⟨grw w7 K07,.inr ⟨rfl,fun o h1 h2 h3=>?_⟩⟩,fun h=>absurd rfl h⟩;obtain⟨a1,a2,a3⟩:=Jv o h1 h2 h3;obtain⟨e1,e2⟩:=Hk _ _ a3;obtain⟨⟨r,f1⟩,f2⟩:=J3 o h1 h2 h3;have hj:j<o.length:=by omega
        rw[List.drop_eq_getElem_cons hj]at f1;have hs:=(el h1 a2).2.2.1 o[j].toNat (by simp only[er];exact List.mem_map_of_mem (List.getElem_mem hj));rw[← e1]at hs;rw[er,List.map_cons,gP,List.append_assoc]at f1;rw[f1,jA hR hs]at hq;cases hq
      | some sk =>
        obtain⟨s,k⟩:=sk;have JI:fk ls rest at_=(.tuple #[.int .i64 (s:Int),.bool true],at_+k):=by unfold fk;rw[hq]
        rw[JI]at Mz ⊢;have FI:=qz _ _ _ _ _ _ _ hq;have JP:=ho.kp k7 (fun k hk e=>by have:=ho.block_ge k hk;omega);refine⟨_,_,rfl,fun h=>(by cases h),fun _=>?_⟩;have Vb:=Mz.le;obtain⟨A8,n8,c8,w8,e1,e2,e3,e4⟩:=eP (x:=(s:Int)) JP (by omega) (Nat.le_trans K6.size k7.size);refine⟨by omega,_,_,_,w8,e1,by omega,(N-((j+1:Nat):Int)).toNat,by omega,j+1,at_+k,out++[(s:Int)],by omega,by omega,rfl,by simp;omega,by omega,?_,e2,?_,?_,?_⟩
        · intro y hy;rcases List.mem_append.1 hy with e | e
          · exact I4 y e
          · have:y=(s:Int):=by simpa using e
            omega
        · refine Mz.kp (Kp.of_grown e3) (fun e=>by have:=JP.block_ge _ e.symm;omega) (fun a ha=>(hX a ha).imp id (fun e1 e=>by have:=JP.block_ge _ e.symm;omega))
        · exact(K6.then k7 (fun k _ e=>by omega)).step e3 (fun k hk=>.inr (by have:=JP.block_ge _ hk;omega))
        · intro o h1 h2 h3;obtain⟨a1,a2,a3⟩:=Jv o h1 h2 h3;obtain⟨q1,q2⟩:=Hk _ _ a3;obtain⟨⟨r,f1⟩,f2⟩:=J3 o h1 h2 h3;have hj:j<o.length:=by omega
          rw[List.drop_eq_getElem_cons hj]at f1;have hs:=(el h1 a2).2.2.1 o[j].toNat (by simp only[er];exact List.mem_map_of_mem (List.getElem_mem hj));rw[← q1]at hs;rw[er,List.map_cons,gP,List.append_assoc]at f1;rw[f1,jA hR hs]at hq;have s1:o[j].toNat=s:=by simpa using congrArg (fun q=>q.map Prod.fst) hq
          have s2:(ln ls o[j].toNat).toNat=k:=by simpa using congrArg (fun q=>q.map Prod.snd) hq
          have Jm:=h1 _ (List.getElem_mem hj);refine⟨⟨r,?_⟩,?_⟩
          · rw[← List.drop_drop,f1,← s2];have:(cF (cd ls o[j].toNat) (ln ls o[j].toNat).toNat).length=(ln ls o[j].toNat).toNat:=dS _ _;rw[show(cF (cd ls o[j].toNat) (ln ls o[j].toNat).toNat++(fu ls (List.map Int.toNat (o.drop (j+1)))++r)).drop (ln ls o[j].toNat).toNat=(fu ls (List.map Int.toNat (o.drop (j+1)))++r) by
              conv=>lhs;arg 1;rw[← this]
              exact List.drop_left]
          · rw[List.take_succ_eq_append_getElem hj,← f2];congr 2;omega
    · have QR:(j:Int)=N:=by omega
      have X6:aZ w6 A (bV x):=hr.kpE K06 (fun a ha=>(Pj a ha).imp (fun e=>by rw[e];rfl) (fun e=>by omega));refine tE (R:=fun ev w'=>w.grownBy w' none/\sp x ev w') X6 hn hb ho.row GK I4 (by omega) (fun FG w' g=>⟨aA (grw w6 K06) g,.inr ⟨rfl,fun o h1 h2 h3=>?_⟩⟩) (fun he w' g=>⟨aA (grw w6 K06) g,.inl ⟨_,_,_,out,rfl,(ho.kept g).row,⟨GK,C5 ho⟩,I4,by omega,he⟩⟩);obtain⟨a1,a2,a3⟩:=Jv o h1 h2 h3;have f2:=(J3 o h1 h2 h3).2;rw[List.take_of_length_le (by omega)]at f2;rw[← f2]at h3;exact FG h3
  · refine tE (R:=fun ev w'=>w.grownBy w' none/\sp x ev w') (o:=[]) (hr.kept_none g1) hn hb (aZ.nil _ _) rfl (fun y hy=>by cases hy) (by omega) (fun FG w' g=>⟨aA g1 g,.inr ⟨rfl,fun o h1 h2 h3=>?_⟩⟩) (fun he w' g=>⟨aA g1 g,.inl ⟨_,_,_,[],rfl,aZ.nil _ _,⟨rfl,Nat.le_refl _⟩,(fun y hy=>by cases hy),by simp,he⟩⟩);obtain⟨k,e1,_⟩:=hO o h1 h2 h3;have a1:N=(o.length:Int):=congrArg Prod.fst e1;have:o=[]:=List.eq_nil_of_length_eq_zero (by omega);rw[this]at h3;exact FG h3
end Go.Proofs.YtlieaecnllkefaaGreat
/-! archipelagolaw7: texts, what is known. -/
namespace Go.Proofs.YtlieaecnllkefaaGreat
open Go Go.V Go.RowKit
theorem fz(w:World)(cs:Array Value)(t:TypeId)(fr:Nat×Nat):aZ (w.alloc (.cells cs t fr)) (some ⟨w.heap.size,0,none⟩) cs.toList:=by
 intro j u hj;refine⟨_,rfl,?_⟩;rw[aP];have:(w.alloc (.cells cs t fr)).heap[w.heap.size]?=some (.cells cs t fr):=by
  show(w.heap.push _)[w.heap.size]?=_;simp
 rw[aB this];simpa using hj
theorem yT(w:World)(C:Array Value)(n c:Nat):Sem.run P (Go.convert 26 26 (.slice (some ⟨w.heap.size,0,none⟩) n c)) (w.alloc (.cells C 5))=.ok (.slice (some ⟨w.heap.size,0,none⟩) n c) (w.alloc (.cells C 5 (C.size,C.size+1))) :=
 Lib.run_convert_bytes_const (P:=P) w 26 5 C n c (by kernel_rfl) (by kernel_rfl)
theorem kJ{w:World}{b s n c:Nat}{e:TypeId}{A:OA}{xs:List Value}(h:aE w b e s A n c xs):n<=c:=by
 obtain⟨_,⟨_,e1,e2,_⟩ | ⟨g,cur,_,_,_,e,_⟩⟩:=h.cases
 ·omega
 ·exact e
end Go.Proofs.YtlieaecnllkefaaGreat

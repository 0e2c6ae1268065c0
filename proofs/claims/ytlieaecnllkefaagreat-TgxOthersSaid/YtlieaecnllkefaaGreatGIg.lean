/- Own texts, packed: G1, G3, G5, H1, H2, H3, H4, H5, H6, H7, H8, H9, H10, H11. -/
import Derived.Test.YtlieaecnllkefaaGreatGHg
import Derived.Test.YtlieaecnllkefaaGreatGFg
import Derived.Test.YtlieaecnllkefaaGreatGXg
import Derived.Test.YtlieaecnllkefaaGreatGBg
import Derived.Test.YtlieaecnllkefaaGreatGGg
import Derived.Lib.SlBytesConst
/-! archipelagolaw6: known; lengths of numbers. -/
set_option linter.unusedVariables false
set_option linter.unusedSimpArgs false
set_option maxHeartbeats 4000000
set_option maxRecDepth 100000
namespace Go.Proofs.YtlieaecnllkefaaGreat
open Go Go.V Go.RowKit
theorem qm{w:World}{A:OA}{n c:Nat}{l:List Int}(hr:bB w A (cz l))(hn:n=l.length)(hA:∀ a,A=some a->l=[]∨a.block<w.heap.size):
    Calls P 123 #[.slice A n c] w fun ev w'=>ev=.returned (.pointer (some ⟨w.heap.size,0,none⟩))/\iD w' w.heap.size A n c l 0/\w.grownBy w' none:=by
  apply vc123;dsimp only[VC123,nb,iq];have g:=World.grownBy_alloc w (.cells #[.slice A n c,.int .i64 0] 240) none;exact⟨rfl,⟨by simpa using heap_alloc_new w (.cells #[.slice A n c,.int .i64 0] 240),hr.kept_none g,hn,by omega,fun a ha=>(hA a ha).imp id (fun h=>by omega)⟩,g⟩
end Go.Proofs.YtlieaecnllkefaaGreat
/-! archipelagolaw6.CodeFree: the walk. -/
namespace Go.Proofs.YtlieaecnllkefaaGreat
open Go Go.V Go.RowKit
theorem Cy(s t:Operand)(a b:Bool)(w:World):Sem.run P (do eqGuard .eql 4 s t (.bool a) (.bool b);Go.binOp .eql 4 (.bool a) (.bool b):Sem Value) w=.ok (.bool (a ==b)) w:=by
 cases a <;>cases b <;>kernel_rfl
end Go.Proofs.YtlieaecnllkefaaGreat
/-! archipelagolaw6.CodeTexts: the walk. -/
namespace Go.V
def gz(ls:List Int)(ss:List Nat):List Bool:=ss.flatMap fun s=>cX (cd ls s) (ln ls s).toNat
theorem wM(ls:List Int)(a b:List Nat):gz ls (a++b)=gz ls a++gz ls b:=by simp[gz]
theorem iT(ls:List Int)(a:Nat)(b:List Nat):gz ls (a ::b)=cX (cd ls a) (ln ls a).toNat++gz ls b:=by simp[gz]
def tI(ls:List Int)(ss:List Nat):Int:=(ss.map (ln ls)).sum
theorem pT{ls:List Int}(h:ct ls=true)(ss:List Nat):((gz ls ss).length:Int)=tI ls ss:=by
 induction ss with
 | nil=>rfl
 | cons a ss ih =>
  have:=(eF h).2.1 a;rw[iT,List.length_append,dX];simp only[tI,List.map_cons,List.sum_cons]at ih ⊢;omega
theorem pB{ls:List Int}(h:ct ls=true)(ss:List Nat):0<=tI ls ss/\tI ls ss<=15*(ss.length:Int):=by
 induction ss with
 | nil=>simp[tI]
 | cons a ss ih =>
  have:=(eF h).2.1 a;simp only[tI,List.map_cons,List.sum_cons,List.length_cons]at ih ⊢;omega
end Go.V
namespace Go.Proofs.YtlieaecnllkefaaGreat
open Go Go.V Go.RowKit
end Go.Proofs.YtlieaecnllkefaaGreat
/-! Numbers in few bytes: lists alone. Plain Lean; no program. -/
namespace Go.V
def cy(v:Nat):List Int:=if v<128 then [(v:Int)] else((v % 128+128:Nat):Int) ::cy (v / 128)
termination_by v
decreasing_by omega
theorem iZ{v:Nat}(h:v<128):cy v=[(v:Int)]:=by unfold cy;rw[if_pos h]
theorem lh{v:Nat}(h:¬ v<128):cy v=((v % 128+128:Nat):Int) ::cy (v / 128):=by rw[cy,if_neg h]
theorem fC(v:Nat):∀ x∈cy v,0<=x/\x<=255:=by
 induction v using Nat.strongRecOn with
 | _ v ih =>
  by_cases h:v<128
  ·rw[iZ h];intro x hx;have:x=(v:Int):=by simpa using hx
   omega
  ·rw[lh h];intro x hx;rcases List.mem_cons.1 hx with e | e
   ·omega
   ·exact ih _ (by omega) x e
theorem lg(v:Nat):0<(cy v).length:=by
 by_cases h:v<128
 ·rw[iZ h];simp
 ·rw[lh h];simp
def fV(most:Int):List Int->Nat->Int->Int×Nat×Int
 | [],_,_=>(0,0,20)
 | c ::r,i,v=>if(i=9/\c>1)∨(i>0/\c=0) then(0,0,21) else
  if c≥128 then fV most r (i+1) (v+c % 128*2^(7*i)) else if v+c % 128*2^(7*i)>most then(0,0,22) else(v+c % 128*2^(7*i),i+1,0)
def cN(most:Int)(b:List Int):Int×Nat×Int:=fV most b 0 0
theorem zS(most:Int)(rest:List Int):∀(n i:Nat)(v:Int),(0<i->0<n)->n*2^(7*i)<2^64->v+n*2^(7*i)<=most->fV most (cy n++rest) i v=(v+n*2^(7*i),i+(cy n).length,0):=by
 intro n
 induction n using Nat.strongRecOn with
 | _ n ih =>
  intro i v DZ Gw hm;have hp:0<2^(7*i):=Nat.two_pow_pos _;by_cases h:n<128
  ·rw[iZ h];show fV most ((n:Int) ::rest) i v=_;unfold fV;have h9:¬ ((i=9/\(n:Int)>1)∨(i>0/\(n:Int)=0)):=by
    rintro(⟨e,e2⟩ | ⟨e,e2⟩)
    ·subst e;have:2*2^(7*9)<=n*2^(7*9):=Nat.mul_le_mul_right _ (by omega);omega
    ·have:=DZ e;omega
   have IV:(n:Int) % 128=(n:Int):=by omega
   rw[if_neg h9,if_neg (by omega),IV,if_neg (by omega)];simp
  ·rw[lh h];show fV most (((n % 128+128:Nat):Int) ::(cy (n / 128)++rest)) i v=_;unfold fV;have h9:¬ ((i=9/\((n % 128+128:Nat):Int)>1)∨(i>0/\((n % 128+128:Nat):Int)=0)):=by
    rintro(⟨e,e2⟩ | ⟨e,e2⟩)
    ·subst e;have:128*2^(7*9)<=n*2^(7*9):=Nat.mul_le_mul_right _ (by omega);omega
    ·omega
   have IV:((n % 128+128:Nat):Int) % 128=((n % 128:Nat):Int):=by omega
   rw[if_neg h9,if_pos (by omega),IV];have e1:2^(7*(i+1))=128*2^(7*i):=by rw[show 7*(i+1)=7*i+7 by omega,Nat.pow_add];omega
   have e1':(2:Int)^(7*(i+1))=128*2^(7*i):=by rw[show 7*(i+1)=7*i+7 by omega,Int.pow_add];omega
   have e2:n / 128*(128*2^(7*i))+n % 128*2^(7*i)=n*2^(7*i):=by
    rw[← Nat.mul_assoc,← Nat.add_mul];congr 1;omega
   have e3:v+((n % 128:Nat):Int)*2^(7*i)+((n / 128:Nat):Int)*2^(7*(i+1))=v+(n:Int)*2^(7*i):=by
    rw[e1',← Int.mul_assoc,Int.add_assoc,← Int.add_mul];congr 2;omega
   rw[ih (n / 128) (by omega) (i+1) _ (fun _=>by omega) (by rw[e1];omega) (by rw[e3];exact hm),e3];simp;omega
theorem eZ{most:Int}{n:Nat}(h:(n:Int)<=most)(Mo:n<2^64)(rest:List Int):cN most (cy n++rest)=((n:Int),(cy n).length,0):=by
 have:=zS most rest n 0 0 (by omega) (by simpa using Mo) (by simpa using h);simpa[cN]using this
theorem vC (most:Int):∀(b:List Int)(i:Nat)(v:Int),(∀ x∈b,0<=x)->0<=v →
    ((fV most b i v).2.2=0/\i<(fV most b i v).2.1/\(fV most b i v).2.1<=i+b.length/\0<=(fV most b i v).1/\(fV most b i v).1<=most)∨((fV most b i v).2.2≠0/\(fV most b i v).2.1=0/\(fV most b i v).1=0)
  | [],i,v,_,_=>.inr ⟨by simp[fV],rfl,rfl⟩
  | c ::r,i,v,h,hv=>by
    have hc:=h c (by simp);have hm:0<=c % 128*2^(7*i):=Int.mul_nonneg (Int.emod_nonneg _ (by omega)) (Int.le_of_lt (dS _));unfold fV;split
    · exact .inr ⟨by simp,rfl,rfl⟩
    · split
      · rcases vC most r (i+1) (v+c % 128*2^(7*i)) (fun x hx=>h x (by simp[hx])) (by omega)with⟨e1,e2,e3,e4⟩ | e
        · exact .inl ⟨e1,by omega,by simp;omega,e4⟩
        · exact .inr e
      · split
        · exact .inr ⟨by simp,rfl,rfl⟩
        · exact .inl ⟨rfl,by simp,by simp,by simp;omega,by simp;omega⟩
theorem iW{most:Int}{b:List Int}(h:∀ x∈b,0<=x):((cN most b).2.2=0/\0<(cN most b).2.1/\(cN most b).2.1<=b.length/\0<=(cN most b).1/\(cN most b).1<=most)∨((cN most b).2.2≠0/\(cN most b).2.1=0/\(cN most b).1=0):=by
 have:=vC most b 0 0 h (by omega);simpa[cN]using this
end Go.V
/-! Numbers in few bytes, counts, bytes held against bytes: both texts. -/
namespace Go.Proofs.YtlieaecnllkefaaGreat
open Go Go.V Go.RowKit
abbrev xJ(xs:List Nat):List Value:=xs.map fun x:Nat=>Value.int .u64 (x:Int)
theorem fM{w:World}{base:Nat}{A:OA}{n c:Nat}{xs:List Int}{x:Int}(ho:aH w base 5 1 A n c (cz xs))(hn:n<=2^39)(hb:base<=w.heap.size):
    ∃ (A':OA) (n' c':Nat) (w':World),Sem.run P (Builtin.append_ #[26,26] 26 #[.slice A n c,.slice (some ⟨w.heap.size,0,none⟩) 1 1]) (w.alloc (.cells #[.int .u8 x] 5))=.ok (.slice A' n' c') w' ∧
      aH w' base 5 1 A' n' c' (cz (xs++[x]))/\w.grownBy w' (Value.slice A n c).ownBlock/\n'=n+1:=by
  have g:=World.grownBy_alloc w (.cells #[.int .u8 x] 5) none;have ro:=dQ w #[.int .u8 x] 5;obtain⟨A',n',c',w',h1,h2,h3,h4,_⟩:=(ho.kept g).appends (ty:=26) lK (by omega) (a:=⟨w.heap.size,0,none⟩) (m:=1) (cc:=1) (us:=cz [x]) rfl (fun j u hj=>by obtain⟨b,q1,q2⟩:=ro j u hj;cases q1;exact q2) (fun u hu=>by simp at hu;rw[hu];rfl) (by omega) (Nat.le_trans hb g.size);exact⟨A',n',c',w',h1,by simpa using h2,aB (bM g) h4,h3⟩
theorem bD{w:World}{base:Nat}{A B:OA}{n c m d:Nat}{xs ys:List Int}(ho:aH w base 5 1 A n c (cz xs))(hB:bB w B (cz ys))(hm:m=ys.length)(hd:B=none->d=0)(hn:n+m<=2^39)(hb:base<=w.heap.size):
    ∃ (A':OA) (n' c':Nat) (w':World),Sem.run P (Builtin.append_ #[26,26] 26 #[.slice A n c,.slice B m d]) w=.ok (.slice A' n' c') w' ∧
      aH w' base 5 1 A' n' c' (cz (xs++ys))/\w.grownBy w' (Value.slice A n c).ownBlock/\n'=n+m:=by
  cases B with
  | none =>
    have:ys=[]:=by
      cases ys with
      | nil=>rfl
      | cons x l=>obtain⟨a,e,_⟩:=hB 0 _ rfl;cases e
    subst this;have RM:=hd rfl;subst RM;have JG:m=0:=by simpa using hm
    subst JG;exact⟨A,n,c,w,ho.appends_nil lK,by simpa using ho,aD _ _,rfl⟩
  | some a =>
    obtain⟨A',n',c',w',h1,h2,h3,h4,_⟩:=ho.appends (ty:=26) lK (by omega) (a:=a) (m:=m) (cc:=d) (us:=cz ys) (by simp[hm]) (fun j u hj=>by obtain⟨b,q1,q2⟩:=hB j u hj;cases q1;exact q2) (fun u hu=>by obtain⟨x,_,rfl⟩:=List.mem_map.1 hu;rfl) (by omega) hb;exact⟨A',n',c',w',h1,by simpa using h2,h4,h3⟩
theorem or128:∀ x:Nat,x<256->x ||| 128=x % 128+128:=by decide +kernel
theorem AJ(v:Nat):dC .or .u8 (((v % 256:Nat)):Int) 128=((v % 128+128:Nat):Int):=by
 have e1:(BitVec.ofInt 8 ((v % 256:Nat):Int)).toNat=v % 256:=cP (by omega);have e2:(BitVec.ofInt 8 ((128:Nat):Int)).toNat=128:=cP (by omega);show IntKind.u8.wrap (((BitVec.ofInt 8 ((v % 256:Nat):Int) ||| BitVec.ofInt 8 ((128:Nat):Int)).toNat:Nat):Int)=_;rw[BitVec.toNat_or,e1,e2,or128 _ (by omega),show v % 256 % 128=v % 128 by omega];exact er (k:=.u8) (show 0<=_/\_<=(255:Int) by omega)
theorem Cf(v:Nat):IntKind.u8.wrap (v:Int)=((v % 256:Nat):Int):=by
 show((v:Int) % 2^8)=_;omega
theorem AN{v:Int}(h:0<=v/\v<=255):dC .and .u8 v 127=v % 128:=by
 obtain⟨n,rfl⟩:∃ n:Nat,v=n:=⟨v.toNat,by omega⟩;have e1:(BitVec.ofInt 8 (n:Int)).toNat=n:=cP (by omega);have e2:(BitVec.ofInt 8 ((127:Nat):Int)).toNat=127:=cP (by omega);show IntKind.u8.wrap (((BitVec.ofInt 8 (n:Int) &&& BitVec.ofInt 8 ((127:Nat):Int)).toNat:Nat):Int)=_;rw[BitVec.toNat_and,e1,e2,show(127:Nat)=2^7-1 from rfl,Nat.and_two_pow_sub_one_eq_mod];rw[er (k:=.u8) (show 0<=_/\_<=(255:Int) by omega)];omega
theorem uR{x c:Int}{j:Nat}(h0:0<=x)(hx:x<2^j)(hc:0<=c)(h:x+c*2^j<18446744073709551616):dC .or .u64 x (c*2^j)=x+c*2^j:=by
 obtain⟨n,rfl⟩:∃ n:Nat,x=n:=⟨x.toNat,by omega⟩;obtain⟨m,rfl⟩:∃ n:Nat,c=n:=⟨c.toNat,by omega⟩;have ep:((2^j:Nat):Int)=2^j:=by simp
 have em:((m*2^j:Nat):Int)=(m:Int)*2^j:=by rw[Int.natCast_mul,ep]
 rw[← em]at h ⊢;have e1:(BitVec.ofInt 64 (n:Int)).toNat=n:=cP (by omega);have e2:(BitVec.ofInt 64 ((m*2^j:Nat):Int)).toNat=m*2^j:=cP (by omega);show IntKind.u64.wrap (((BitVec.ofInt 64 (n:Int) ||| BitVec.ofInt 64 ((m*2^j:Nat):Int)).toNat:Nat):Int)=_;rw[BitVec.toNat_or,e1,e2,uS (by omega)];rw[er (k:=.u64) (show 0<=_/\_<=(18446744073709551615:Int) by omega)];omega
def bY(l:List Nat):List Int:=l.flatMap cy
theorem qX(v:Nat)(k:Nat):v<2^(7*k)->0<k->(cy v).length<=k:=by
 induction k generalizing v with
 | zero=>intro _ h;omega
 | succ k ih =>
  intro h _;by_cases hv:v<128
  ·rw[iZ hv];simp
  ·rw[lh hv,List.length_cons];have:0<k:=by
    rcases Nat.eq_zero_or_pos k with e | e
    ·subst e;simp at h;omega
    ·exact e
   have:=ih (v / 128) (by
    rw[show 7*(k+1)=7*k+7 by omega,Nat.pow_add]at h;exact Nat.div_lt_of_lt_mul (by omega)) this
   omega
theorem dk{v:Nat}(h:v<2^64):(cy v).length<=10:=qX v 10 (Nat.lt_of_lt_of_le h (by decide)) (by omega)
theorem oS{l:List Nat}(h:∀ x∈l,x<2^64):(bY l).length<=10*l.length:=by
 induction l with
 | nil=>simp[bY]
 | cons x l ih =>
  have h1:=dk (h x (by simp));have h2:=ih (fun y hy=>h y (by simp[hy]));simp only[bY,List.flatMap_cons,List.length_append,List.length_cons]at h2 ⊢;omega
theorem gL {w:World} {A:OA} {n c:Nat} {l:List Nat} (hr:bB w A (xJ l)) (hn:n=l.length) (hb:∀ x∈l,x<2^64) (hl:n<=2^20) :
    Calls P 70 #[.slice A n c] w fun ev w'=>∃(A':OA)(n' c':Nat),ev=.returned (.slice A' n' c')/\aH w' w.heap.size 5 1 A' n' c' (cz (bY l))/\w.grownBy w' none:=by
  apply vc70;dsimp only[VC70,Br,Rd,Ix,Ap,nb]
  try simp only[aG]
  refine⟨fun m Ao no co i w1=>∃ j:Nat,i=(j:Int)/\j<=l.length/\m=l.length-j/\aH w1 w.heap.size 5 1 Ao no co (cz (bY (l.take j)))/\w.grownBy w1 none,⟨_,0,rfl,by omega,rfl,aH.nil _ _ _ _,aD _ _⟩,?_⟩;rintro m Ao no co i w1 ⟨j,rfl,hj,rfl,ho,hg⟩;have tj:(j:Int).toNat=j:=by omega
  rw[tj];refine⟨fun DF=>?_,fun DK=>?_⟩
  · have lj:j<l.length:=by omega
    obtain⟨a,EN,Ex⟩:=(hr.kept_none hg) j (.int .u64 (l[j]:Int)) (by simp[lj]);have hx:=hb _ (List.getElem_mem lj);have Kq:=oS (l:=l.take j) (fun x hx=>hb x (List.mem_of_mem_take hx));have Io:(l.take j).length=j:=by simp;omega
    have J4:=dk hx;refine⟨a,EN,by omega,by omega,_,Ex,?_⟩;refine⟨fun m Ao no co v w2=>∃(u:Nat)(bs:List Int),v=(u:Int)/\m=u/\u<2^64/\bs++cy u=cy l[j]/\aH w2 w.heap.size 5 1 Ao no co (cz (bY (l.take j)++bs))/\w.grownBy w2 none,⟨_,l[j],[],rfl,rfl,hx,rfl,by simpa using ho,hg⟩,?_⟩;rintro m Ao no co v w2 ⟨u,bs,rfl,L7,hu,G9,EB,DR⟩;subst L7;have Gb:bs.length<=10:=by
      have:=congrArg List.length G9;rw[List.length_append]at this;omega
    have FP:no=(bY (l.take j)++bs).length:=by have:=EB.cases.1;rw[List.length_map]at this;omega
    have KD:no<=2^39:=by rw[FP,List.length_append];omega
    refine⟨fun DK=>?_,fun Fu=>?_⟩
    · have Jw:¬ m<128:=by omega
      rw[Cf,AJ];obtain⟨A3,n3,c3,w3,e1,e2,e3,_⟩:=fM (x:=((m % 128+128:Nat):Int)) EB KD DR.size;refine⟨A3,n3,c3,w3,e1,by omega,m / 128,by omega,m / 128,bs++[((m % 128+128:Nat):Int)],by omega,rfl,by omega,?_,by simpa using e2,aP DR e3 EB.block_ge⟩;rw[← G9,lh Jw];simp
    · have Jw:m<128:=by omega
      obtain⟨A3,n3,c3,w3,e1,e2,e3,_⟩:=fM (x:=(m:Int)) EB KD DR.size;refine⟨by omega,A3,n3,c3,w3,e1,by omega,l.length-(j+1),by omega,j+1,by omega,by omega,rfl,?_,aP DR e3 EB.block_ge⟩;have:bY (l.take (j+1))=bY (l.take j)++bs++[(m:Int)]:=by
        rw[iZ Jw]at G9;rw[List.take_succ_eq_append_getElem lj,bY,List.flatMap_append,List.append_assoc,G9];simp[bY]
      rw[this];exact e2
  · have:j=l.length:=by omega
    subst this;rw[List.take_length]at ho;exact⟨_,_,_,rfl,ho,hg⟩
abbrev Cl(t:Int×Nat×Int):Value:=.tuple #[.int .u64 t.1,.int .i64 (t.2.1:Int),.int .i64 t.2.2]
theorem xS{i:Nat}(h:i<=9):(0:Int)<2^(7*i)/\(2:Int)^(7*i)<=2^63:=by
 have e1:((2^(7*i):Nat):Int)=2^(7*i):=by simp
 have:=Nat.pow_le_pow_right (n:=2) (by omega) (show 7*i<=63 by omega);have:=Nat.two_pow_pos (7*i);omega
theorem vstep{v c:Int}{i:Nat}(hi:i<=9)(hc:0<=c/\c<=255)(h9:i=9->c<=1)(hv:0<=v/\v<2^(7*i)):dC .or .u64 v (c % 128*2^(7*i))=v+c % 128*2^(7*i)/\0<=c % 128*2^(7*i)/\c % 128*2^(7*i)<=18446744073709551615/\v+c % 128*2^(7*i)<2^(7*(i+1)):=by
 obtain⟨p1,p2⟩:=xS hi;have hm:0<=c % 128/\c % 128<=127:=by omega
 have h0:0<=c % 128*2^(7*i):=Int.mul_nonneg hm.1 (Int.le_of_lt p1);have DQ:c % 128*2^(7*i)<=127*2^(7*i):=Int.mul_le_mul_of_nonneg_right hm.2 (Int.le_of_lt p1);have e1:(2:Int)^(7*(i+1))=128*2^(7*i):=by rw[show 7*(i+1)=7*i+7 by omega,Int.pow_add];omega
 have hb:v+c % 128*2^(7*i)<18446744073709551616:=by
  by_cases h:i=9
  ·subst h;have:=h9 rfl;have HL:c % 128<=1:=by omega
   have:c % 128*2^(7*9)<=1*2^(7*9):=Int.mul_le_mul_of_nonneg_right HL (by decide);have e:(2:Int)^(7*9)=9223372036854775808:=by decide
   rw[e]at this hv ⊢;omega
  ·have h8:i<=8:=by omega
   have e2:((2^(7*i):Nat):Int)=2^(7*i):=by simp
   have:=Nat.pow_le_pow_right (n:=2) (by omega) (show 7*i<=56 by omega);omega
 exact⟨uR hv.1 hv.2 hm.1 hb,h0,by omega,by rw[e1];omega⟩
theorem kR {w:World} {A:OA} {n c:Nat} {b:List Int} {most:Int} (hr:bB w A (cz b)) (hn:n=b.length) (hb:∀ x∈b,0<=x/\x<=255) (hl:n<=2^40) :
    Calls P 120 #[.slice A n c,.int .u64 most] w fun ev w'=>ev=.returned (Cl (cN most b))/\w.grownBy w' none:=by
  apply vc120;dsimp only[VC120,rt,Br,Bb,Rd,Ix,iq]
  try simp only[aG]
  refine⟨fun m v i w1=>∃ j:Nat,i=(j:Int)/\j<=b.length/\m=b.length-j/\j<=9/\0<=v/\v<2^(7*j)/\cN most b=fV most (b.drop j) j v/\w.grownBy w1 none,⟨_,0,rfl,by omega,rfl,by omega,by omega,by simp,rfl,aD _ _⟩,?_⟩;rintro m v i w1 ⟨j,rfl,hj,rfl,Ro,Hy,Hx,Ei,hg⟩;have tj:(j:Int).toNat=j:=by omega
  have t7:(7*(j:Int)).toNat=7*j:=by omega
  have m64:min (7*j) 64=7*j:=by omega
  rw[tj,t7,m64];refine⟨fun DF=>?_,fun DK=>?_⟩
  · have lj:j<b.length:=by omega
    obtain⟨a,EN,Ex⟩:=(hr.kept_none hg) j (.int .u8 b[j]) (by simp[lj]);have hc:=hb _ (List.getElem_mem lj);rw[List.drop_eq_getElem_cons lj]at Ei;rw[fV]at Ei;refine⟨a,EN,by omega,by omega,_,Ex,fun q w2=>w2=w1/\(q=true↔(j=9/\b[j]>1)∨(j>0/\b[j]=0)),⟨fun h9=>⟨fun h1=>⟨rfl,by simp;omega⟩,fun h1=>⟨fun h0=>⟨rfl,by simp;omega⟩,fun h0=>⟨rfl,by simp;omega⟩⟩⟩,fun h9=>⟨fun h0=>⟨rfl,by simp;omega⟩,fun h0=>⟨rfl,by simp;omega⟩⟩⟩,?_⟩;rintro q w2 ⟨rfl,hq⟩;refine⟨fun h=>⟨?_,hg⟩,fun h=>?_⟩
    · rw[if_pos (hq.1 h)]at Ei;rw[Ei];rfl
    · have Q7:¬ ((j=9/\b[j]>1)∨(j>0/\b[j]=0)):=fun e=>by rw[hq.2 e]at h;cases h
      rw[if_neg Q7]at Ei;rw[AN hc];obtain⟨s1,s2,s3,s4⟩:=vstep Ro hc (fun e=>by omega) ⟨Hy,Hx⟩;rw[s1];refine⟨by omega,by omega,⟨by omega,by omega,by omega⟩,fun DK=>?_,fun Fu=>⟨fun hm=>⟨?_,hg⟩,fun hm=>⟨by omega,?_,hg⟩⟩⟩
      · rw[if_pos DK]at Ei;exact⟨by omega,b.length-(j+1),by omega,j+1,by omega,by omega,rfl,by omega,by omega,s4,Ei,hg⟩
      · rw[if_neg Fu,if_pos hm]at Ei;rw[Ei];rfl
      · rw[if_neg Fu,if_neg hm]at Ei;rw[Ei];rfl
  · have:j=b.length:=by omega
    subst this;rw[List.drop_length]at Ei;rw[Ei];exact⟨rfl,hg⟩
theorem zj{zs:List Int}{k:Nat}(h:k<zs.length):(bL zs)[k]?=some (.int .i64 (zs.getD k 0)):=by
 simp[List.getD_eq_getElem?_getD,h]
theorem wo(zs:List Int)(k:Nat)(v:Int):(bL zs).set k (.int .i64 v)=bL (zs.set k v):=by simp[List.map_set]
def po(b:List Int):List Int:=fR (b.map Int.toNat) (List.replicate 256 0)
theorem wY(b:List Int):(po b).length=256:=by rw[po,eo];simp
theorem sX{w:World}{A:OA}{n c:Nat}{b:List Int}(hr:bB w A (cz b))(hn:n=b.length)(hb:∀ x∈b,0<=x/\x<=255)(hl:n<=2^40):
    Calls P 111 #[.slice A n c] w fun ev w'=>∃(A':OA)(n' c':Nat),ev=.returned (.slice A' n' c')/\cY w' w.heap.size 3 A' n' c' (bL (po b))/\w.grownBy w' none:=by
  apply vc111;dsimp only[VC111,Wt,Br,Rd,Ix,iq]
  try simp only[aG]
  obtain⟨w1,Fk,DI,g1⟩:=nH (P:=P) (w:=w) kA (by omega) (m:=256) (by omega);refine⟨_,_,_,w1,Fk,?_⟩;have hA:∀ a,A=some a->b=[]∨a.block<w.heap.size:=fun a ha=>by
    by_cases e:b=[]
    · exact .inl e
    · obtain⟨q,e1,e2⟩:=hr.blk (by simpa using e);rw[ha]at e1;cases e1;exact .inr e2
  refine⟨fun m i w2=>∃ j:Nat,i=(j:Int)/\j<=b.length/\m=b.length-j/\cC w2 w.heap.size 3 256 (bL (fR ((b.take j).map Int.toNat) (List.replicate 256 0)))/\w1.grownBy w2 (some w.heap.size),
    ⟨_,0,rfl,by omega,rfl,by simpa[fR,bL]using DI,aD _ _⟩,?_⟩
  rintro m i w2 ⟨j,rfl,hj,rfl,ho,hg⟩;have tj:(j:Int).toNat=j:=by omega
  rw[tj];have SS:(fR ((b.take j).map Int.toNat) (List.replicate 256 0)).length=256:=by rw[eo];simp
  refine⟨fun DF=>?_,fun DK=>?_⟩
  · have lj:j<b.length:=by omega
    have hc:=hb _ (List.getElem_mem lj);have rowb:bB w2 A (cz b):=(hr.kept_none g1).kept hg (fun a ha=>by
      rcases hA a ha with e | e
      · rw[e]at lj;simp at lj
      · simp;omega)
    obtain⟨a,EN,Ex⟩:=rowb j (.int .u8 b[j]) (by simp[lj]);have hs:b[j].toNat<256:=by omega
    have DO:=ho.cell (j:=b[j].toNat) (u:=.int .i64 ((fR ((b.take j).map Int.toNat) (List.replicate 256 0)).getD b[j].toNat 0)) (zj (by omega));have En:=kL ((b.take j).map Int.toNat) (xs:=List.replicate 256 0) (B:=0) (by simp) (by omega);have hv:=En ((fR ((b.take j).map Int.toNat) (List.replicate 256 0)).getD b[j].toNat 0) (by
      rw[List.getD_eq_getElem?_getD,List.getElem?_eq_getElem (by omega)];exact List.getElem_mem _)
    have HW:((b.take j).map Int.toNat).length=j:=by simp;omega
    refine⟨a,EN,by omega,by omega,_,Ex,_,rfl,by omega,by omega,_,DO,by omega,_,rfl,by omega,by omega,⟨_,DO⟩,ho.notFrozen (aL _ _),by omega,b.length-(j+1),by omega,j+1,by omega,by omega,rfl,?_,bZ hg (aL _ _) _⟩;rw[List.take_succ_eq_append_getElem lj,List.map_append,lS];have Ft:=ho.set (j:=b[j].toNat) (by rw[List.length_map];omega) (.int .i64 ((fR ((b.take j).map Int.toNat) (List.replicate 256 0)).getD b[j].toNat 0+1));rw[wo]at Ft;exact Ft
  · have:j=b.length:=by omega
    subst this;rw[List.take_length]at ho;have h5:=ho.ownsRow (Nat.le_refl _) (by simp only[maxLen];omega);have Rk:(bL (fR (b.map Int.toNat) (List.replicate 256 0))).length=256:=by simp[bL,eo]
    rw[Rk]at h5;exact⟨_,_,_,rfl,h5,aP g1 hg (by intro k hk;cases hk;omega)⟩
theorem iB{w:World}{A B:OA}{n c m d:Nat}{a b:List Int}(hA:bB w A (cz a))(hn:n=a.length)(hB:bB w B (cz b))(hm:m=b.length)(ha:∀ x∈a,0<=x/\x<=255)(hb:∀ x∈b,0<=x/\x<=255):
    Calls P 50 #[.slice A n c,.slice B m d] w fun ev w'=>ev=.returned (.bool (decide (a=b)))/\w'=w:=by
  apply vc50;dsimp only[VC50,Eg,Cv];refine⟨_,dG hA hn,_,dG hB hm,_,fun w=>qS _ _ _ _ w,?_,rfl⟩;have:decide (mF a=mF b)=decide (a=b):=by
    rw[decide_eq_decide];exact⟨tH ha hb,fun h=>by rw[h]⟩
  rw[this]
end Go.Proofs.YtlieaecnllkefaaGreat
/-! Bytes in fewer ones: lists alone. -/
namespace Go.Proofs.YtlieaecnllkefaaGreat
open Go Go.V Go.RowKit
abbrev aR(b:List Int):Prop:=∀ x∈b,0<=x/\x<=255
abbrev fu(b:List Int):List Nat:=b.map Int.toNat
def lr(b:List Int):List Int:=dL (po b) 15
def dE:List Int->Nat->Nat->List Int
 | [],_,_=>[]
 | x ::l,s,nx=>if 0<x then cy (s-nx)++(cy x.toNat++dE l (s+1) (s+1)) else dE l (s+1) nx
def cW(b:List Int):List Int:=if b=[] then cy 0 else cy b.length++(cy (dp (lr b))++(dE (lr b) 0 0++dD (gz (lr b) (fu b))))
theorem Ds:cH 15=15:=by decide
theorem BO(b:List Int){s:Nat}(hs:s<256):(po b).getD s 0=((fu b).count s:Int):=by
 rw[po,sE _ _ _ (by simpa using hs)];have:(List.replicate 256 (0:Int)).getD s 0=0:=by
  rw[List.getD_eq_getElem?_getD,List.getElem?_replicate];split <;>rfl
 simp only[fu];omega
theorem sa(p:Nat->Bool):∀ n:Nat,(((List.range n).filter p).length:Int)=aO n (fun s=>if p s=true then 1 else 0)
 | 0=>by simp[aO]
 | n+1=>by
  rw[List.range_succ,List.filter_append,List.length_append];have:=sa p n;simp only[aO];by_cases h:p n=true
  ·simp[h];omega
  ·simp[h];omega
theorem xV{ls xs:List Int}(hl:ls.length=xs.length)(h:∀ s,s<xs.length->(0<ln ls s↔0<xs.getD s 0)):(i6 ls).length=(aM xs).length:=by
 have h1:=sa (fun s=>decide (0<ln ls s)) ls.length;have h2:=jr xs;have h3:aO ls.length (fun s=>if decide (0<ln ls s)=true then(1:Int) else 0)=PS xs (fun _=>1):=by
  unfold PS;rw[hl];apply aY;intro s hs;have:=h s hs;by_cases e:0<ln ls s
  ·rw[if_pos (by simpa using e),if_pos (this.1 e)]
  ·have e2:¬ 0<xs.getD s 0:=fun q=>e (this.2 q);simp only[e,decide_false,if_neg e2,Bool.false_eq_true,if_false]
 show(((List.range ls.length).filter fun s=>decide (0<ln ls s)).length)=_;omega
theorem AF{xs:List Int}{s:Nat}(hs:s<xs.length)(hp:0<xs.getD s 0):1<=(aM xs).length:=by
 have h2:=jr xs;have h3:=fG (fun _=>(1:Int)) hs;have h5:aO xs.length (fun j=>if j=s then(1:Int) else 0)<=PS xs (fun _=>1):=by
  apply ir;intro i hi;by_cases e1:i=s
  ·subst e1;simp only[hp,if_true];omega
  ·simp only[e1,if_false];split <;>omega
 rw[h3]at h5;omega
theorem yd{xs:List Int}(h:xs.length=256)(h1:1<=(aM xs).length):ct (dL xs 15)=true:=by
 have Gm:=jz xs;have hn:(aM xs).length<=2^cH 15:=by rw[Ds];omega
 have hm:1<=cH 15:=by rw[Ds];omega
 have DH:(dL xs 15).length=xs.length:=km (by omega) hn;have DQ:=fun s (hs:s<xs.length)=>zi (most:=15) (by omega) hn hm hs;rw[Ds]at DQ;have DN:∀ x∈dL xs 15,0<=x/\x<=15:=by
  intro x hx;obtain⟨s,hs,rfl⟩:=List.mem_iff_getElem.1 hx;have:=DQ s (by omega);have e:(dL xs 15).getD s 0=(dL xs 15)[s]:=by simp[List.getD_eq_getElem?_getD,hs]
  omega
 unfold ct;have a1:decide ((dL xs 15).length<=256)=true:=by simp;omega
 have a2:(dL xs 15).all (fun x=>decide (0<=x/\x<=15))=true:=by
  rw[List.all_eq_true];intro x hx;simpa using DN x hx
 rw[a1,a2,Bool.true_and,Bool.true_and];by_cases h2:2<=(aM xs).length
 ·have:=Bz (most:=15) (by omega) h2 hn hm (by rw[Ds];omega);simp[this]
 ·have GV:(aM xs).length=1:=by omega
  have hp:=xV DH (fun s hs=>(DQ s hs).2.2);have Lp:(dL xs 15).all (fun x=>decide (x<=1))=true:=by
   rw[List.all_eq_true];intro x hx;obtain⟨s,hs,rfl⟩:=List.mem_iff_getElem.1 hx;have e:(dL xs 15).getD s 0=(dL xs 15)[s]:=by simp[List.getD_eq_getElem?_getD,hs]
   rw[← e,oV (by omega) hn (by omega)];obtain⟨c,hc⟩:=List.length_eq_one_iff.1 GV;have JN:(bU xs (cH 15)).length=1:=by
    unfold bU;rw[if_pos GV,hc];have:=(lQ (xs:=xs) (c:=c) (by rw[hc];simp)).1;simp[this]
   have:=List.count_le_length (a:=s) (l:=bU xs (cH 15));simp;omega
  rw[Lp,hp,GV];simp
theorem ff{b:List Int}(h:aR b)(DJ:b≠[]):(lr b).length=256/\ct (lr b)=true/\(∀ x∈fu b,x<(lr b).length/\0<ln (lr b) x)/\(∀ v∈lr b,0<=v/\v<=15):=by
 have hl:=wY b;have EJ:∀ x∈fu b,x<256/\0<(po b).getD x 0:=by
  intro x hx;obtain⟨y,hy,rfl⟩:=List.mem_map.1 hx;have:=h y hy;refine⟨by omega,?_⟩;rw[BO b (by omega)];have:=List.count_pos_iff.2 hx;omega
 have h1:1<=(aM (po b)).length:=by
  obtain⟨y,t,rfl⟩:=List.exists_cons_of_ne_nil DJ;have:=EJ y.toNat (by simp);exact AF (s:=y.toNat) (by omega) this.2
 have hr:=yd hl h1;have Gm:=jz (po b);have hn:(aM (po b)).length<=2^cH 15:=by rw[Ds];omega
 have hm:1<=cH 15:=by rw[Ds];omega
 have DH:(lr b).length=256:=by rw[lr,km (by omega) hn,hl]
 have DQ:=fun s (hs:s<(po b).length)=>zi (most:=15) (by omega) hn hm hs;rw[Ds]at DQ;refine⟨DH,hr,fun x hx=>⟨by have:=EJ x hx;omega,((DQ x (by have:=EJ x hx;omega)).2.2).2 (EJ x hx).2⟩,?_⟩;intro v hv;obtain⟨s,hs,rfl⟩:=List.mem_iff_getElem.1 hv;have:=DQ s (by omega);have e:(dL (po b) 15).getD s 0=(lr b)[s]:=by
  show(lr b).getD s 0=_;simp[List.getD_eq_getElem?_getD,hs]
 omega
theorem ml:∀(l:List Int)(s nx:Nat),nx<=s->0<dp l->∃(i:Nat)(x:Int),l[i]?=some x/\0<x/\(∀ j y,j<i->l[j]?=some y->¬ 0<y) ∧
    dE l s nx=cy (s+i-nx)++(cy x.toNat++dE (l.drop (i+1)) (s+i+1) (s+i+1))/\dp l=1+dp (l.drop (i+1))
  | [],s,nx,_,h=>by simp[dp]at h
  | x ::l,s,nx,DQ,h=>by
    by_cases hx:0<x
    · refine⟨0,x,rfl,hx,fun j y hj=>by omega,?_,?_⟩
      · simp[dE,hx]
      · simp[dp,hx];omega
    · have hp:dp (x ::l)=dp l:=by simp[dp,hx]
      obtain⟨i,y,h1,h2,h3,h4,h5⟩:=ml l (s+1) nx (by omega) (by omega);refine⟨i+1,y,by simpa using h1,h2,?_,?_,?_⟩
      · intro j z hj hz;cases j with
        | zero=>simp at hz;subst hz;exact hx
        | succ j=>exact h3 j z (by omega) (by simpa using hz)
      · rw[dE,if_neg hx,h4];simp only[List.drop_succ_cons];rw[show s+1+i-nx=s+(i+1)-nx by omega,show s+1+i+1=s+(i+1)+1 by omega]
      · rw[hp,h5];simp
theorem nQ:∀(l:List Int)(s nx:Nat),dp l=0->dE l s nx=[]/\∀ x∈l,¬ 0<x
 | [],s,nx,_=>by simp[dE]
 | x ::l,s,nx,h=>by
  have hx:¬ 0<x:=by intro hx;simp[dp,hx]at h
  have hp:dp l=0:=by simpa[dp,hx]using h
  obtain⟨h1,h2⟩:=nQ l (s+1) nx hp;refine⟨by rw[dE,if_neg hx,h1],fun y hy=>?_⟩;rcases List.mem_cons.1 hy with e | e
  ·rw[e];exact hx
  ·exact h2 y e
def oI(ls:List Int)(k:Nat):List Int:=ls.take k++List.replicate (256-k) 0
theorem jk{ls:List Int}{k:Nat}(hl:ls.length=256)(hk:k<=256):(oI ls k).length=256:=by simp[oI];omega
theorem qJ{ls:List Int}{k j:Nat}(hl:ls.length=256)(hk:k<=256)(hj:j<256):(oI ls k)[j]?=some (if j<k then ln ls j else 0):=by
 unfold oI;by_cases h:j<k
 ·rw[List.getElem?_append_left (by simp;omega),List.getElem?_take,if_pos h,if_pos h,ln,List.getD_eq_getElem?_getD,List.getElem?_eq_getElem (by omega)];rfl
 ·rw[List.getElem?_append_right (by simp;omega),List.getElem?_replicate,if_neg h,if_pos (by simp;omega)]
theorem zL(ls:List Int):oI ls 0=List.replicate 256 0:=by simp[oI]
theorem zM{ls:List Int}{k i:Nat}{x:Int}(hl:ls.length=256)(hr:∀ v∈ls,0<=v)(hk:k<=256)(hi:(ls.drop k)[i]?=some x)(hz:∀ j y,j<i->(ls.drop k)[j]?=some y->¬ 0<y):k+i<256/\(oI ls k).set (k+i) x=oI ls (k+i+1):=by
 rw[List.getElem?_drop]at hi;have DF:=(List.getElem?_eq_some_iff.1 hi).1;refine⟨by omega,?_⟩;apply List.ext_getElem?;intro j;by_cases hj:j<256
 ·rw[List.getElem?_set,qJ hl hk hj,qJ hl (by omega) hj];by_cases e:k+i=j
  ·subst e;rw[if_pos rfl,if_pos (by rw[jk hl hk];omega),if_pos (by omega),ln,List.getD_eq_getElem?_getD,hi];rfl
  ·rw[if_neg e];by_cases h1:j<k
   ·rw[if_pos h1,if_pos (by omega)]
   ·rw[if_neg h1];by_cases h2:j<k+i+1
    ·rw[if_pos h2];have Ey:j<ls.length:=by omega
     have:=hz (j-k) ls[j] (by omega) (by rw[List.getElem?_drop,show k+(j-k)=j by omega];simp[Ey]);have h0:=hr ls[j] (List.getElem_mem Ey);have:ln ls j=ls[j]:=by simp[ln,List.getD_eq_getElem?_getD,Ey]
     congr 1;omega
    ·rw[if_neg h2]
 ·rw[List.getElem?_eq_none (by rw[List.length_set,jk hl hk];omega),List.getElem?_eq_none (by rw[jk hl (by omega)];omega)]
theorem AY{ls:List Int}{k:Nat}(hl:ls.length=256)(hr:∀ v∈ls,0<=v)(hk:k<=256)(hz:∀ x∈ls.drop k,¬ 0<x):oI ls k=ls:=by
 apply List.ext_getElem?;intro j;by_cases hj:j<256
 ·rw[qJ hl hk hj];have Ey:j<ls.length:=by omega
  have e:ln ls j=ls[j]:=by simp[ln,List.getD_eq_getElem?_getD,Ey]
  rw[List.getElem?_eq_getElem Ey,← e];by_cases h:j<k
  ·rw[if_pos h]
  ·rw[if_neg h];have h0:=hr ls[j] (List.getElem_mem Ey);have hm:ls[j]∈ls.drop k:=by
    rw[List.mem_iff_getElem?];exact⟨j-k,by rw[List.getElem?_drop,show k+(j-k)=j by omega];simp[Ey]⟩
   have:=hz _ hm;congr 1;omega
 ·rw[List.getElem?_eq_none (by rw[jk hl hk];omega),List.getElem?_eq_none (by omega)]
theorem i4{u v:Nat}{s t:List Int}(hu:u<2^64)(hv:v<2^64)(h:cy u++s=cy v++t):u=v/\s=t:=by
 have h1:=eZ (most:=2^64) (n:=u) (by omega) hu s;have h2:=eZ (most:=2^64) (n:=v) (by omega) hv t;rw[h]at h1;rw[h1]at h2;have:u=v:=by have:=congrArg Prod.fst h2;simp at this;omega
 subst this;exact⟨rfl,List.append_cancel_left h⟩
end Go.Proofs.YtlieaecnllkefaaGreat
/-! Bytes in fewer ones: no text begins as another. -/
namespace Go.Proofs.YtlieaecnllkefaaGreat
open Go Go.V Go.RowKit
theorem wy:∀(n:Nat)(l l':List Int)(k:Nat)(a b:List Int),dp l=n->dp l'=n->l.length=l'.length->k+l.length<=256->(∀ v∈l,0<=v/\v<=15)->(∀ v∈l',0<=v/\v<=15)->dE l k k++a=dE l' k k++b->l=l'/\a=b
 | 0,l,l',k,a,b,h,h',hl,hk,hr,Ib,he=>by
  obtain⟨e1,z1⟩:=nQ l k k h;obtain⟨e2,z2⟩:=nQ l' k k h';rw[e1,e2]at he;refine⟨?_,by simpa using he⟩;have z:∀(q:List Int),(∀ v∈q,0<=v/\v<=15)->(∀ v∈q,¬ 0<v)->q=List.replicate q.length 0:=fun q h1 h2=>by
   rw[List.eq_replicate_iff];exact⟨rfl,fun v hv=>by have:=h1 v hv;have:=h2 v hv;omega⟩
  rw[z l hr z1,z l' Ib z2,hl]
 | n+1,l,l',k,a,b,h,h',hl,hk,hr,Ib,he=>by
  obtain⟨i,x,h1,h2,h3,h4,h5⟩:=ml l k k (Nat.le_refl _) (by omega);obtain⟨i',x',Fv,Ht,PY,Ot,TN⟩:=ml l' k k (Nat.le_refl _) (by omega);have hi:=(List.getElem?_eq_some_iff.1 h1).1;have GY:=(List.getElem?_eq_some_iff.1 Fv).1;have hx:=hr x (List.mem_of_getElem? h1);have Eo:=Ib x' (List.mem_of_getElem? Fv);rw[h4,Ot,List.append_assoc,List.append_assoc,List.append_assoc,List.append_assoc]at he;obtain⟨e1,Pn⟩:=i4 (by omega) (by omega) he;obtain⟨e2,RF⟩:=i4 (by omega) (by omega) Pn;clear he Pn;have ei:i=i':=by omega
  have ex:x=x':=by omega
  subst ei ex;obtain⟨ed,ea⟩:=wy n (l.drop (i+1)) (l'.drop (i+1)) (k+i+1) a b (by omega) (by omega) (by simp[hl]) (by simp;omega) (fun v hv=>hr v (List.mem_of_mem_drop hv)) (fun v hv=>Ib v (List.mem_of_mem_drop hv)) RF;refine⟨?_,ea⟩;apply List.ext_getElem?;intro j;by_cases hj:j<i
  ·have jl:j<l.length:=by omega
   have jl':j<l'.length:=by omega
   have a1:=h3 j l[j] hj (by simp[jl]);have a2:=PY j l'[j] hj (by simp[jl']);have b1:=hr _ (List.getElem_mem jl);have b2:=Ib _ (List.getElem_mem jl');rw[List.getElem?_eq_getElem jl,List.getElem?_eq_getElem jl'];congr 1;omega
  ·by_cases e:j=i
   ·subst e;rw[h1,Fv]
   ·have:=congrArg (fun q=>q[j-(i+1)]?) ed;simp only[List.getElem?_drop]at this
    rwa [show i+1+(j-(i+1))=j by omega]at this
theorem uq(a b:List Int)(i:Nat):ef (a++b) i=if i<8*a.length then ef a i else ef b (i-8*a.length):=by
 unfold ef;by_cases h:i<8*a.length
 ·rw[if_pos h,List.getD_eq_getElem?_getD,List.getD_eq_getElem?_getD,List.getElem?_append_left (by omega)]
 ·rw[if_neg h,List.getD_eq_getElem?_getD,List.getD_eq_getElem?_getD,List.getElem?_append_right (by omega)];rw[show(i-8*a.length) / 8=i / 8-a.length by omega,show(i-8*a.length) % 8=i % 8 by omega]
theorem pz(a b:List Int):aS (a++b)=aS a++aS b:=by
 apply List.ext_getElem?;intro j;unfold aS;simp only[List.getElem?_append,List.getElem?_map,List.length_map,List.length_range,List.length_append];by_cases h:j<8*a.length
 ·rw[if_pos h,List.getElem?_range (by omega),List.getElem?_range (by omega)];simp[uq,h]
 ·rw[if_neg h];by_cases h2:j<8*(a.length+b.length)
  ·rw[List.getElem?_range h2,List.getElem?_range (by omega)];simp[uq,h]
  ·rw[List.getElem?_eq_none (by simp;omega),List.getElem?_eq_none (by simp;omega)];rfl
theorem zv{ls:List Int}(hR:ct ls=true):∀(o b:List Nat)(s t:List Bool),o.length=b.length->(∀ x∈o,x<ls.length/\0<ln ls x)->(∀ x∈b,x<ls.length/\0<ln ls x)->gz ls o++s=gz ls b++t->o=b
 | [],b,s,t,hl,_,_,_=>by cases b with
  | nil=>rfl
  | cons=>simp at hl
 | x ::o,[],s,t,hl,_,_,_=>by simp at hl
 | x ::o,y ::b,s,t,hl,ho,hb,he=>by
  rw[iT,iT,List.append_assoc,List.append_assoc]at he;have h1:=l8 hR (ho x (by simp)) (gz ls o++s);have h2:=l8 hR (hb y (by simp)) (gz ls b++t);rw[he,h2]at h1;have e:y=x:=by simpa using congrArg (fun q=>q.map Prod.fst) h1
  subst e;have:=zv hR o b s t (by simpa using hl) (fun z hz=>ho z (by simp[hz])) (fun z hz=>hb z (by simp[hz])) (List.append_cancel_left he);rw[this]
theorem Cn{o b:List Int}(ho:aR o)(hb:aR b)(h:fu o=fu b):o=b:=by
 have e:∀ q:List Int,aR q->(fu q).map (fun n:Nat=>(n:Int))=q:=by
  intro q hq;rw[List.map_map]
  conv=>rhs;rw[← List.map_id q]
  apply List.map_congr_left;intro x hx;have:=hq x hx;simp;omega
 rw[← e o ho,← e b hb,h]
theorem qY{o b s t:List Int}(ho:aR o)(hb:aR b)(E7:o.length<2^64)(Gb:b.length<2^64)(h:cW o++s=cW b++t):o=b:=by
 have DH:o.length=b.length:=by
  unfold cW at h;have e:∀ q:List Int,∃ r,(if q=[] then cy 0 else cy q.length++(cy (dp (lr q))++(dE (lr q) 0 0++dD (gz (lr q) (fu q)))))=cy q.length++r:=by
   intro q;by_cases hq:q=[]
   ·exact⟨[],by simp[hq]⟩
   ·exact⟨_,if_neg hq⟩
  obtain⟨r1,e1⟩:=e o;obtain⟨r2,e2⟩:=e b;rw[e1,e2,List.append_assoc,List.append_assoc]at h;exact(i4 E7 Gb h).1
 by_cases L3:o=[]
 ·subst L3;simp at DH;exact(List.eq_nil_of_length_eq_zero DH.symm).symm
 ·have JO:b≠[]:=fun e=>by subst e;simp at DH;exact L3 DH
  unfold cW at h;rw[if_neg L3,if_neg JO]at h;simp only[List.append_assoc]at h;obtain⟨_,h⟩:=i4 E7 Gb h;obtain⟨l1,r1,s1,v1⟩:=ff ho L3;obtain⟨l2,r2,s2,v2⟩:=ff hb JO;have p1:=mg (lr o);have p2:=mg (lr b);obtain⟨hp,h⟩:=i4 (by omega) (by omega) h;obtain⟨hl,h⟩:=wy _ _ _ 0 _ _ rfl hp.symm (by omega) (by omega) v1 v2 h;rw[hl]at h s1;have h2:=congrArg aS h;rw[pz,pz,fF,fF,List.append_assoc,List.append_assoc]at h2;exact Cn ho hb (zv r2 _ _ _ _ (by simpa using DH) s1 s2 h2)
theorem vP{o b:List Int}(ho:aR o)(hb:aR b)(E7:o.length<2^64)(Gb:b.length<2^64)(h:cW o=cW b):o=b :=
 qY (s:=[]) (t:=[]) ho hb E7 Gb (by rw[h])
end Go.Proofs.YtlieaecnllkefaaGreat
/-! huff.Put: the walk. -/
namespace Go.Proofs.YtlieaecnllkefaaGreat
open Go Go.V Go.RowKit
theorem ll{w:World}{b b' s s' n c n' c':Nat}{e e':TypeId}{A A':OA}{xs xs':List Value}(h:aH w b e s A n c xs)(h':aH w b' e' s' A' n' c' xs')(ne:e≠e'):(Value.slice A n c).ownBlock=none∨(Value.slice A n c).ownBlock≠(Value.slice A' n' c').ownBlock:=by
 cases hk:(Value.slice A n c).ownBlock with
 | none=>exact .inl rfl
 | some k =>
  refine .inr fun hq=>?_;obtain⟨c1,h1⟩:=h.block_type k hk;obtain⟨c2,h2⟩:=h'.block_type k hq.symm;rw[h1]at h2;cases h2;exact ne rfl
theorem dw{w:World}{b s n c:Nat}{e:TypeId}{A:OA}{xs:List Value}(h:aH w b e s A n c xs):A=none->c=0:=by
 obtain⟨_,⟨_,_,e,_⟩ | ⟨g,cur,e,_⟩⟩:=h.cases
 ·exact fun _=>e
 ·intro q;rw[q]at e;cases e
theorem z9(x:Int)(l:List Int):dp (x ::l)=(if 0<x then 1 else 0)+dp l:=by
 unfold dp;rw[List.filter_cons];by_cases h:0<x
 ·simp[h];omega
 ·simp[h]
theorem z6(a b:Nat):bY [a,b]=cy a++cy b:=by simp[bY]
theorem jN(a:Nat):bY [a]=cy a:=by simp[bY]
theorem dj{w:World}{b n c:Nat}{A:OA}{xs:List Int}(h:aH w b 5 1 A n c (cz xs)):n=xs.length:=by
 have:=h.cases.1;rw[List.length_map]at this;omega
theorem nd{w:World}{A:OA}{n c:Nat}{b:List Int}(hr:bB w A (cz b))(hn:n=b.length)(hb:aR b)(hl:n<=2^20):
    Calls P 69 #[.slice A n c] w fun ev w'=>∃(A':OA)(n' c':Nat),ev=.returned (.slice A' n' c')/\aH w' w.heap.size 5 1 A' n' c' (cz (cW b))/\w.grownBy w' none:=by
  apply vc69;dsimp only[VC69,Br,Rd,Ix,Ap,cB,cS,nb,iq]
  try simp only[aG]
  refine⟨by omega,?_⟩;have gal:=World.grownBy_alloc w (.cells #[.int .u64 (n:Int)] 22) none;have IL:bB (w.alloc (.cells #[.int .u64 (n:Int)] 22)) (some ⟨w.heap.size,0,none⟩) (xJ [n]):=dQ w _ 22;refine(gL (l:=[n]) IL rfl (by simp;omega) (by simp)).mono fun ev w1 hh=>?_;obtain⟨A1,n1,c1,rfl,o1,g1⟩:=hh;replace o1:=o1.mono (base':=w.heap.size) gal.size;have Fw:=aB gal g1;rw[jN]at o1;refine⟨A1,n1,c1,rfl,fun h0=>?_,fun h0=>?_⟩
  · have e:b=[]:=by apply List.eq_nil_of_length_eq_zero;omega
    subst e;have e0:n=0:=by omega
    subst e0;exact⟨_,_,_,rfl,by simpa[cW]using o1,Fw⟩
  have DJ:b≠[]:=fun e=>by subst e;simp at hn;omega
  obtain⟨HG,hR,EJ,FD⟩:=ff hb DJ;have Hz:cW b=cy n++(cy (dp (lr b))++(dE (lr b) 0 0++dD (gz (lr b) (fu b)))):=by rw[cW,if_neg DJ,hn]
  have r1:=hr.kept_none Fw;refine(sX r1 hn hb (by omega)).mono fun ev w2 hh=>?_;obtain⟨A2,n2,c2,rfl,o2,g2⟩:=hh;refine⟨_,_,_,rfl,?_⟩;have FQ:n2=(po b).length:=by rw[o2.cases.1];simp[bL]
  refine(sT (most:=15) o2.row FQ).mono fun ev w3 hh=>?_;obtain⟨A3,n3,c3,rfl,o3,g3⟩:=hh;replace o3:cY w3 w2.heap.size 3 A3 n3 c3 (bL (lr b)):=o3;generalize lr b=ls at *;have Gs:n3=256:=by rw[o3.cases.1];simp[bL,HG]
  have QU:=mg ls;have Ih:=dk (v:=n) (by omega);have EO:=aB g2 g3;have DP:=aB Fw EO;refine⟨_,_,_,rfl,?_⟩;refine⟨fun m nn nx Ah nh ch i w4=>∃(j k:Nat)(hd:List Int),i=(j:Int)/\nx=(k:Int)/\k<=j/\j<=256/\m=256-j/\nn+(dp (ls.drop j):Int)=(dp ls:Int)/\hd++dE (ls.drop j) j k=dE ls 0 0/\aH w4 w3.heap.size 5 1 Ah nh ch (cz hd)/\hd.length<=20*j/\0<=nn/\w3.grownBy w4 none,
    ⟨_,0,0,[],rfl,rfl,by omega,by omega,rfl,by simp,by simp,aH.nil _ _ _ _,by simp,by omega,aD _ _⟩,?_⟩
  rintro m nn nx Ah nh ch i w4 ⟨j,k,hd,rfl,rfl,Th,hj,rfl,HE,FR,oh,Tn,Ij,Ef⟩;have tj:(j:Int).toNat=j:=by omega
  rw[tj];have Tb:=dj oh;refine⟨fun DF=>?_,fun DK=>?_⟩
  · have lj:j<ls.length:=by omega
    have EH:=List.drop_eq_getElem_cons lj;have OQ:=FD _ (List.getElem_mem lj);obtain⟨p,hp⟩:∃ p:Nat,ls[j]=(p:Int):=⟨ls[j].toNat,by omega⟩;obtain⟨a,EN,Ex⟩:=(o3.row.kept_none Ef) j (.int .i64 ls[j]) (by simp[bL,lj]);rw[hp]at Ex EH OQ;rw[EH,dE]at FR;rw[EH,z9]at HE;refine⟨a,EN,by omega,by omega,_,Ex,fun DZ=>?_,fun hz=>?_⟩
    · rw[if_pos (by omega)]at FR HE;have ep:(p:Int).toNat=p:=by omega
      rw[ep]at FR;refine⟨by omega,by omega,by omega,?_⟩;rw[show((j:Int)-(k:Int))=((j-k:Nat):Int) by omega];have ga:=World.grownBy_alloc w4 (.cells #[.int .u64 ((j-k:Nat):Int),.int .u64 (p:Int)] 22) none;have IL:bB (w4.alloc (.cells #[.int .u64 ((j-k:Nat):Int),.int .u64 (p:Int)] 22)) (some ⟨w4.heap.size,0,none⟩) (xJ [j-k,p]):=dQ w4 _ 22;refine(gL (l:=[j-k,p]) IL rfl (by simp;omega) (by simp)).mono fun ev w5 hh=>?_;obtain⟨A5,n5,c5,rfl,o5,g5⟩:=hh;have GB:=aB ga g5;rw[z6]at o5;have HF:=dj o5;have l1:=dk (v:=j-k) (by omega);have l2:=dk (v:=p) (by omega);have l5:(cy (j-k)++cy p).length<=20:=by rw[List.length_append];omega
      obtain⟨A6,n6,c6,w6,e1,e2,e3,e4⟩:=bD (oh.kept GB) o5.row HF (dw o5) (by omega) (Nat.le_trans Ef.size GB.size);refine⟨_,_,_,rfl,_,_,_,w6,e1,by omega,by omega,by omega,256-(j+1),by omega,j+1,j+1,hd++(cy (j-k)++cy p),by omega,by omega,by omega,by omega,rfl,by omega,?_,e2,?_,by omega,aP (aB Ef GB) e3 oh.block_ge⟩
      · rw[← FR];simp
      · rw[List.length_append];omega
    · rw[if_neg (by omega)]at FR HE;exact⟨by omega,256-(j+1),by omega,j+1,k,hd,by omega,rfl,by omega,by omega,rfl,by omega,FR,oh,by omega,Ij,Ef⟩
  have e256:j=256:=by omega
  subst e256;rw[List.drop_eq_nil_of_le (by omega)]at FR HE;simp only[dE,List.append_nil]at FR;subst FR;have MY:nn=(dp ls:Int):=by simp[dp]at HE ⊢;omega
  subst MY;refine⟨by omega,?_⟩;have ga:=World.grownBy_alloc w4 (.cells #[.int .u64 (dp ls:Int)] 22) none;have IL:bB (w4.alloc (.cells #[.int .u64 (dp ls:Int)] 22)) (some ⟨w4.heap.size,0,none⟩) (xJ [dp ls]):=dQ w4 _ 22;refine(gL (l:=[dp ls]) IL rfl (by simp;omega) (by simp)).mono fun ev w7 hh=>?_;obtain⟨A7,n7,c7,rfl,o7,g7⟩:=hh;have IA:=aB ga g7;have Mq:=aB Ef IA;have Hu:=aB EO Mq;rw[jN]at o7;have O6:=dj o7;have Hp:=dj o1;have l7:=dk (v:=dp ls) (by omega);have o1':=o1.kept Hu;have oh7:=oh.kept IA;have Oz:=aH.kept (size:=1) o3 Mq;obtain⟨A8,n8,c8,w8,e1,e2,e3,e4⟩:=bD o1' o7.row O6 (dw o7) (by omega) (Nat.le_trans Fw.size Hu.size);refine⟨_,_,_,rfl,_,_,_,w8,e1,?_⟩;have oh8:=oh7.apart e3 (by
    cases hk:(Value.slice Ah nh ch).ownBlock with
    | none=>exact .inl rfl
    | some k =>
      refine .inr fun hq=>?_;have a1:=oh.block_ge k hk;have a2:=o1.block_lt k hq.symm;have a3:=EO.size;omega)
  have Oy:=Oz.apart e3 (ll Oz o1' (by decide));have K8:Kp w w8 (fun k=>w.heap.size<=k):=(Kp.of_none (aB Fw Hu)).step e3 (fun k hk=>.inr (o1.block_ge k hk));obtain⟨A9,n9,c9,w9,f1,f2,f3,f4⟩:=bD e2 oh8.row (dj oh8) (dw oh8) (by omega) K8.size;refine⟨_,_,_,w9,f1,?_⟩;have P9:=Oy.apart f3 (ll Oy e2 (by decide));have K9:Kp w w9 (fun k=>w.heap.size<=k):=K8.step f3 (fun k hk=>.inr (e2.block_ge k hk));refine(tZ (ls:=ls) P9.row (by omega) (by omega)).mono fun ev DX hh=>?_;obtain⟨FV,⟨hf,rfl⟩ | ⟨_,gt,rfl,hT⟩⟩:=hh
  · rw[hR]at hf;cases hf
  refine⟨_,_,rfl,?_⟩;refine(kO (base:=DX.heap.size) (Nat.le_refl _)).mono fun ev Ej hh=>?_;obtain⟨rfl,hW,JX⟩:=hh;refine⟨_,rfl,?_⟩;have K10:Kp w DX (fun k=>w.heap.size<=k):=K9.step FV (fun k hk=>by cases hk);have r10:bB DX A (cz b):=hr.kp K10 (fun a ha hk e=>by omega);have hA:∀ a,A=some a->a.block<w.heap.size:=fun a ha=>by
    obtain⟨q,q1,q2⟩:=hr.blk (by simpa using DJ);rw[ha]at q1;cases q1;exact q2
  have keepT:∀ w',Kp DX w' (fun k=>DX.heap.size<=k)->oe w' DX.heap.size gt ls:=fun w' h=>hT.kp h (fun k hk e=>by omega);refine⟨fun m i Hk=>∃ j:Nat,i=(j:Int)/\j<=b.length/\m=b.length-j/\Wr Hk DX.heap.size DX.heap.size (gz ls ((fu b).take j))/\Kp DX Hk (fun k=>DX.heap.size<=k),
    ⟨_,0,rfl,by omega,rfl,by simpa[gz]using hW,Kp.of_none JX⟩,?_⟩
  rintro m i Hk ⟨j,rfl,hj,rfl,Jj,K12⟩;have tj:(j:Int).toNat=j:=by omega
  rw[tj];have Pl:=pT hR ((fu b).take j);have QD:=pB hR ((fu b).take j);have HW:((fu b).take j).length=j:=by simp;omega
  refine⟨fun DF=>?_,fun DK=>?_⟩
  · have lj:j<b.length:=by omega
    obtain⟨a,EN,Ex⟩:=(r10.kp K12 (fun a ha _ e=>by have:=hA a ha;have:=K10.size;omega)) j (.int .u8 b[j]) (by simp[lj]);have RV:=hb _ (List.getElem_mem lj);refine⟨a,EN,by omega,by omega,_,Ex,by omega,?_⟩;refine(uH (s:=b[j]) (keepT Hk K12) hR Jj (by omega) K12.size).mono fun ev Fz hh=>?_;obtain⟨rfl,NX,k13⟩:=hh;refine⟨_,rfl,by omega,b.length-(j+1),by omega,j+1,by omega,by omega,rfl,?_,K12.then k13 (fun k _ e=>e.1)⟩;have hs:=EJ b[j].toNat (by simp only[fu];exact List.mem_map_of_mem (List.getElem_mem lj));have hv:fT ls b[j]=true:=by simp[fT];omega
    rw[List.take_succ_eq_append_getElem (by simpa using lj),wM];have:gz ls [(fu b)[j]'(by simpa using lj)]=jt ls b[j]:=by
      rw[jt,if_pos hv];simp[gz]
    rw[this];exact NX
  · have e:j=b.length:=by omega
    subst e;rw[List.take_of_length_le (by simp)]at Jj Pl QD;have MH:(fu b).length=b.length:=by simp
    refine(pY Jj (by omega)).mono fun ev Jy hh=>?_;obtain⟨TQ,SQ,c14,rfl,LN,IB⟩:=hh;refine⟨_,_,_,rfl,?_⟩;have f2':=aH.kp (f2.kept FV) (K12.step IB (fun k hk=>by cases hk)) (fun k hk e=>by have:=f2.block_lt k hk;have:=FV.size;omega);have M0:=dj LN;rw[bK]at M0;have O5:=dj f2;have Ii:=dj e2;obtain⟨TP,SP,c15,P8,h1,h2,h3,h4⟩:=bD f2' LN.row (dj LN) (dw LN) (by omega) (Nat.le_trans K10.size (Nat.le_trans K12.size IB.size));refine⟨_,_,_,P8,h1,_,_,_,rfl,?_,?_⟩
    · rw[Hz];simpa using h2
    · have K12':Kp w Hk (fun k=>w.heap.size<=k):=K10.then K12 (fun k hk e=>by have:=K10.size;omega);exact((K12'.step IB (fun k hk=>by cases hk)).step h3 (fun k hk=>.inr (f2.block_ge k hk))).grown (fun k hk e=>by omega)
end Go.Proofs.YtlieaecnllkefaaGreat
/-! archipelagoref5.Put: the walk. -/
namespace Go.Proofs.YtlieaecnllkefaaGreat
open Go Go.V Go.RowKit
end Go.Proofs.YtlieaecnllkefaaGreat
/-! The readers' heads: numbers and lengths: the walks. -/
namespace Go.Proofs.YtlieaecnllkefaaGreat
open Go Go.V Go.RowKit
theorem AZ(l:List Int)(k:Nat):(cz l).drop k=cz (l.drop k):=by simp
theorem pk{w:World}{A:OA}{c k:Nat}{l:List Int}(h:bB w A (cz l))(hc:l.length<=c):bB w (bN A c k 1) (cz (l.drop k)):=by
 unfold bN;split
 ·rename_i FS;rw[List.drop_eq_nil_of_le (by omega)];intro j u hj;simp at hj
 ·have:=h.drop (k*1);rw[Nat.mul_one,AZ]at this;rw[Nat.mul_one];exact this
theorem um{A:OA}{c k:Nat}{a:Addr}(h:bN A c k 1=some a):∃ a',A=some a'/\a.block=a'.block:=by
 unfold bN at h;split at h
 ·exact⟨a,h,rfl⟩
 ·cases A with
  | none=>simp at h
  | some a'=>simp at h;subst h;exact⟨a',rfl,aL _ _⟩
def gn(w:World)(g:Nat)(l:List Int)(ok:Bool):Prop:=∃(A:OA)(n c:Nat),w.heap[g]?=some (.cells #[.slice A n c,.bool ok] 236 (0,0))/\bB w A (cz l)/\n=l.length/\n<=c/\∀ a,A=some a->l=[]∨a.block<g
theorem gn.kp{w w':World}{S:Nat->Prop}{g:Nat}{l:List Int}{ok:Bool}(h:gn w g l ok)(hk:Kp w w' S)(hS:∀ k,k<=g->¬ S k):gn w' g l ok:=by
 obtain⟨A,n,c,h1,h2,h3,h4,h5⟩:=h;exact⟨A,n,c,by rw[hk.block g (Array.getElem?_eq_some_iff.1 h1).1 (hS g (Nat.le_refl _))];exact h1,h2.kpE hk (fun a ha=>(h5 a ha).imp (fun e=>by rw[e];rfl) (fun e=>hS _ (by omega))),h3,h4,h5⟩
theorem gn.lt{w:World}{g:Nat}{l:List Int}{ok:Bool}(h:gn w g l ok):g<w.heap.size:=by
 obtain⟨A,n,c,h1,_⟩:=h;exact(Array.getElem?_eq_some_iff.1 h1).1
theorem cv{w w':World}{S:Nat->Prop}{g j:Nat}{u:Value}(h:Kp w w' S)(hS:S g):Kp w (w'.setCell ⟨g,j,none⟩ u) S:=h.set (p:=⟨g,j,none⟩) (.inr hS) u
theorem set2{w w':World}{S:Nat->Prop}{b j:Nat}{u:Value}(h:Kp w w' S)(hS:S b):Kp w (w'.setCell ((⟨b,0,none⟩:Addr).add j) u) S:=h.set (.inr (by rw[aL];exact hS)) u
theorem mh{w:World}{g:Nat}{l:List Int}{ok:Bool}{most:Int}(h:gn w g l ok)(hb:aR l)(hl:l.length<=2^40)(hm:0<=most/\most<=9223372036854775807):
    Calls P 161 #[.pointer (some ⟨g,0,none⟩),.int .u64 most] w fun ev w'=>ev=.returned (.int .i64 (cN most l).1)/\gn w' g (l.drop (cN most l).2.1) (ok && decide ((cN most l).2.2=0))/\Kp w w' (fun k=>k=g):=by
  obtain⟨A,n,c,h1,h2,h3,h4,h5⟩:=h;apply vc161;dsimp only[VC161,Wt,Bb,Rs,iq]
  try simp only[aG]
  refine⟨_,rfl,_,_,_,aA h1 0,?_⟩;refine(kR (most:=most) h2 h3 hb (by omega)).mono fun ev w1 hh=>?_;obtain⟨rfl,g1⟩:=hh;have ht:=iW (most:=most) (b:=l) (fun x hx=>(hb x hx).1);obtain⟨v,k,e,hv⟩:∃ v k e,cN most l=(v,k,e):=⟨_,_,_,rfl⟩;rw[hv]at ht ⊢;simp only at ht ⊢;have E5:=aI g1;have lt:g<w.heap.size:=(Array.getElem?_eq_some_iff.1 h1).1;have Fv:w1.drew.heap[g]?=some (.cells #[.slice A n c,.bool ok] 236 (0,0)):=by rw[E5.block g lt (by simp)];exact h1
  have tk:(k:Int).toNat=k:=by omega
  have Ma:k<=n:=by omega
  have EK:=aF Fv 0 (.slice (bN A c k 1) (n-k) (c-k));have fin:∀ q:Bool,gn ((w1.drew.setCell ⟨g,0,none⟩ (.slice (bN A c k 1) (n-k) (c-k))).setCell ⟨g,1,none⟩ (.bool q)) g (l.drop k) q/\Kp w ((w1.drew.setCell ⟨g,0,none⟩ (.slice (bN A c k 1) (n-k) (c-k))).setCell ⟨g,1,none⟩ (.bool q)) (fun k=>k=g):=by
    intro q;have K:Kp w ((w1.drew.setCell ⟨g,0,none⟩ (.slice (bN A c k 1) (n-k) (c-k))).setCell ⟨g,1,none⟩ (.bool q)) (fun k=>k=g):=cv (cv (Kp.of_none E5) rfl) rfl;refine⟨⟨_,_,_,by simpa using aF EK 1 (.bool q),?_,by simp;omega,by omega,?_⟩,K⟩
    · exact pk (h2.kpE K (fun a ha=>(h5 a ha).imp (fun e=>by rw[e];rfl) (fun e=>by omega))) (by omega)
    · intro a ha;obtain⟨a',e1,e2⟩:=um ha;exact(h5 a' e1).imp (fun e=>by rw[e];simp) (fun e=>by omega)
  refine⟨v,(k:Int),e,rfl,_,rfl,_,_,_,aA Fv 0,⟨by omega,by omega⟩,?_⟩;rw[tk];refine⟨_,rfl,ok,by rw[aN];exact aA Fv 1,fun h=>?_,fun h=>?_⟩
  · refine⟨_,rfl,⟨_,aA Fv 0⟩,aC Fv 0,_,rfl,⟨_,by rw[aN];exact aA EK 1⟩,by rw[aN];exact aC EK 1,⟨by omega,by omega⟩,rfl,?_⟩;rw[aN,h,Bool.true_and];exact fin _
  · refine⟨_,rfl,⟨_,aA Fv 0⟩,aC Fv 0,_,rfl,⟨_,by rw[aN];exact aA EK 1⟩,by rw[aN];exact aC EK 1,⟨by omega,by omega⟩,rfl,?_⟩;rw[aN,h,Bool.false_and];exact fin _
def xx(l ls tail:List Int):Prop:=ls.length=256/\(∀ v∈ls,0<=v/\v<=15)/\l=cy (dp ls)++(dE ls 0 0++tail)
theorem xx.step{ls tail r:List Int}{k:Nat}{n:Int}(HG:ls.length=256)(hr:∀ v∈ls,0<=v/\v<=15)(hk:k<=256)(hn:n=(dp (ls.drop k):Int))(hp:0<n)(he:r=dE (ls.drop k) k k++tail):
    ∃(i:Nat)(x:Int)(r1:List Int),k+i<256/\0<=x/\x<=15/\r=cy i++r1/\r1=cy x.toNat++(dE (ls.drop (k+i+1)) (k+i+1) (k+i+1)++tail)/\(oI ls k).set (k+i) x=oI ls (k+i+1)/\n-1=(dp (ls.drop (k+i+1)):Int):=by
  obtain⟨i,x,h1,h2,h3,h4,h5⟩:=ml (ls.drop k) k k (Nat.le_refl _) (by omega);obtain⟨u1,u2⟩:=zM HG (fun v hv=>(hr v hv).1) hk h1 h3;have hx:=hr x (List.mem_of_mem_drop (List.mem_of_getElem? h1));rw[List.drop_drop,show k+(i+1)=k+i+1 by omega]at h4 h5;refine⟨i,x,_,u1,hx.1,hx.2,?_,rfl,u2,by omega⟩;rw[he,h4,show k+i-k=i by omega];simp
theorem ye {w :World} {g:Nat} {l:List Int} (h:gn w g l true) (hb:aR l) (hl:l.length<=2^40) :
    Calls P 162 #[.pointer (some ⟨g,0,none⟩)] w fun ev w'=>∃(A':OA)(c':Nat)(out:List Int)(ok:Bool)(p:Nat),ev=.returned (.slice A' 256 c')/\bB w' A' (bL out)/\out.length=256/\gn w' g (l.drop p) ok/\Kp w w' (fun k=>k=g)/\∀ ls tail,xx l ls tail->ok=true/\out=ls/\l.drop p=tail:=by
  apply vc162;dsimp only[VC162,Wt,Br,Bb,Ix,cI,iq]
  try simp only[aG]
  obtain⟨w1,Fk,DI,g1⟩:=nH (P:=P) (w:=w) kA (by omega) (m:=256) (by omega);have Tp:=h.lt;refine⟨_,_,_,w1,Fk,?_⟩;have h1:gn w1 g l true:=h.kp (S:=fun _=>False) (Kp.of_none g1) (fun _ _ h=>h);refine(mh (most:=256) h1 hb hl (by omega)).mono fun ev w2 hh=>?_;obtain⟨rfl,Oa,k2⟩:=hh;have ht:=iW (most:=256) (b:=l) (fun x hx=>(hb x hx).1);have o2:cC w2 w.heap.size 3 256 (List.replicate 256 (.int .i64 0)):=DI.of_heap (k2.block _ DI.lt (by omega));have K2:Kp w w2 (fun k=>k=g):=(Kp.of_none g1).then k2 (fun k _ e=>e);refine⟨_,rfl,?_⟩;refine⟨fun m next n w3=>∃(p k:Nat)(out:List Int)(ok:Bool),next=(k:Int)/\k<=256/\m=n.toNat/\0<=n/\n<=256/\cC w3 w.heap.size 3 256 (bL out)/\out.length=256/\gn w3 g (l.drop p) ok/\Kp w w3 (fun k=>k=g)/\∀ ls tail,xx l ls tail->ok=true/\out=oI ls k/\n=(dp (ls.drop k):Int)/\l.drop p=dE (ls.drop k) k k++tail,
    ⟨_,_,0,List.replicate 256 0,_,rfl,by omega,rfl,by omega,by omega,by simpa[bL]using o2,by simp,Oa,K2,?_⟩,?_⟩
  · rintro ls tail ⟨HG,hr,he⟩;have QU:=mg ls;have Ei:=eZ (most:=256) (n:=dp ls) (by omega) (by omega) (dE ls 0 0++tail);rw[← he]at Ei;rw[Ei];refine⟨by simp,(zL ls).symm,by simp,?_⟩;show l.drop (cy (dp ls)).length=_;rw[he];simp
  rintro m next n w3 ⟨p,k,out,ok,rfl,hk,rfl,Ij,Hp,ho,E7,hN,K3,hc⟩
  have FX:∀ w',w'.heap[w.heap.size]?=w3.heap[w.heap.size]?->cC w' w.heap.size 3 256 (bL out):=fun w' e=>ho.of_heap e;have fin:∀ w' (o':List Int),cC w' w.heap.size 3 256 (bL o')->bB w' (some ⟨w.heap.size,0,none⟩) (bL o'):=fun w' o' h=>h.row;refine⟨fun DZ=>?_,fun hz=>?_⟩
  · obtain⟨A,nn,cc,b1,b2,b3,b4,b5⟩:=hN;have hN:gn w3 g (l.drop p) ok:=⟨A,nn,cc,b1,b2,b3,b4,b5⟩;refine⟨_,rfl,ok,by rw[aN];exact aA b1 1,fun hok=>?_,fun hok=>?_⟩
    · subst hok;have En:aR (l.drop p):=fun x hx=>hb x (List.mem_of_mem_drop hx);refine(mh (most:=256) hN En (by simp;omega) (by omega)).mono fun ev w4 hh=>?_;obtain⟨rfl,Mh,k4⟩:=hh;have LW:=iW (most:=256) (b:=l.drop p) (fun x hx=>(En x hx).1);obtain⟨v,q,e,hv⟩:∃ v q e,cN 256 (l.drop p)=(v,q,e):=⟨_,_,_,rfl⟩;rw[hv]at LW Mh ⊢;simp only[Bool.true_and]at LW Mh ⊢;rw[List.drop_drop]at Mh;have EZ:cC w4 w.heap.size 3 256 (bL out):=ho.of_heap (k4.block _ ho.lt (by omega));have K4:Kp w w4 (fun k=>k=g):=K3.then k4 (fun k _ e=>e);obtain⟨A4,n4,c4,d1,d2,d3,d4,d5⟩:=Mh;have Iu:∀ ls tail,xx l ls tail->∃(x:Int)(i:Nat),v=(i:Int)/\e=0/\k+i<256/\0<=x/\x<=15/\l.drop (p+q)=cy x.toNat++(dE (ls.drop (k+i+1)) (k+i+1) (k+i+1)++tail)/\out.set (k+i) x=oI ls (k+i+1)/\n-1=(dp (ls.drop (k+i+1)):Int):=by
        intro ls tail hd;obtain⟨_,c1,c2,c3⟩:=hc ls tail hd;obtain⟨i,x,r1,s1,s2,s3,s4,s5,s6,s7⟩:=xx.step hd.1 hd.2.1 hk c2 DZ c3;have Ei:=eZ (most:=256) (n:=i) (by omega) (by omega) r1;rw[← s4,hv]at Ei;have e1:v=(i:Int):=congrArg Prod.fst Ei;have e2:q=(cy i).length:=congrArg (fun t=>t.2.1) Ei;have e3:e=0:=congrArg (fun t=>t.2.2) Ei;refine⟨x,i,e1,e3,s1,s2,s3,?_,by rw[c1];exact s6,s7⟩;rw[← List.drop_drop,s4,e2,List.drop_left,s5]
      refine⟨v,rfl,by omega,_,rfl,decide (e=0),by rw[aN];exact aA d1 1,fun he=>?_,fun he=>?_⟩
      · have RJ:e=0:=by simpa using he
        have EK:=aF d1 1 (.bool (decide ((k:Int)+v<256)));have K5:Kp w4 (w4.setCell ⟨g,1,none⟩ (.bool (decide ((k:Int)+v<256)))) (fun k=>k=g):=cv (Kp.refl w4 _) rfl;have IQ:=EZ.of_heap (K5.block _ EZ.lt (by omega));have HR:gn (w4.setCell ⟨g,1,none⟩ (.bool (decide ((k:Int)+v<256)))) g (l.drop (p+q)) (decide ((k:Int)+v<256)) :=
          ⟨A4,n4,c4,by simpa using EK,d2.kpE K5 (fun a ha=>(d5 a ha).imp (fun e=>by rw[e];rfl) (fun e=>by omega)),d3,d4,d5⟩
        refine⟨_,rfl,⟨_,by rw[aN];exact aA d1 1⟩,by rw[aN];exact aC d1 1,_,rfl,decide ((k:Int)+v<256),?_,fun DF=>?_,fun DK=>?_⟩
        · rw[aN];simpa using aA EK 1
        · rw[aN];have Gt:(k:Int)+v<256:=by simpa using DF
          rw[DF]at HR;simp only[DF]at IQ HR K5 ⊢;have NM:aR (l.drop (p+q)):=fun x hx=>hb x (List.mem_of_mem_drop hx);refine(mh (most:=15) HR NM (by simp;omega) (by omega)).mono fun ev w6 hh=>?_;obtain⟨rfl,Sn,k6⟩:=hh;have FY:=IQ.of_heap (k6.block _ IQ.lt (by omega));have tv:((k:Int)+v).toNat=k+v.toNat:=by omega
          have DO:=FY.cell (j:=k+v.toNat) (u:=.int .i64 (out.getD (k+v.toNat) 0)) (zj (by omega));refine⟨_,rfl,by omega,_,rfl,by omega,by omega,?_,?_,by omega,(n-1).toNat,by omega,?_⟩
          · rw[tv];exact⟨_,DO⟩
          · exact FY.notFrozen (aL _ _)
          · rw[tv];have Ft:=FY.set (j:=k+v.toNat) (by rw[List.length_map];omega) (.int .i64 (cN 15 (l.drop (p+q))).1);rw[wo]at Ft;have K6:Kp w (w6.setCell ((⟨w.heap.size,0,none⟩:Addr).add (k+v.toNat)) (.int .i64 (cN 15 (l.drop (p+q))).1)) (fun k=>k=g):=((K4.then K5 (fun k _ e=>e)).then k6 (fun k _ e=>e)).set (.inl (by rw[aL];exact Nat.le_refl _)) _;have PJ:=Sn.kp (S:=fun k=>k=w.heap.size) (set2 (b:=w.heap.size) (j:=k+v.toNat) (u:=.int .i64 (cN 15 (l.drop (p+q))).1) (Kp.refl w6 _) rfl) (fun k hk e=>by omega);rw[List.drop_drop]at PJ;refine⟨_,k+v.toNat+1,out.set (k+v.toNat) (cN 15 (l.drop (p+q))).1,_,by omega,by omega,rfl,by omega,by omega,Ft,by simp;omega,PJ,K6,?_⟩;intro ls tail hd;obtain⟨x,i,a1,a2,a3,a4,a5,a6,a7,a8⟩:=Iu ls tail hd;have Ei:=eZ (most:=15) (n:=x.toNat) (by omega) (by omega) (dE (ls.drop (k+i+1)) (k+i+1) (k+i+1)++tail);rw[← a6]at Ei;have ti:v.toNat=i:=by omega
            rw[Ei,ti];refine⟨by simp,?_,a8,?_⟩
            · show out.set (k+i) ((x.toNat:Nat):Int)=_;rw[show((x.toNat:Nat):Int)=x by omega];exact a7
            · show l.drop (p+q+(cy x.toNat).length)=_;rw[← List.drop_drop,a6,List.drop_left]
        · rw[aN];simp only[DK]at IQ HR K5 ⊢;refine⟨by omega,(n-1).toNat,by omega,p+q,k,out,false,rfl,hk,rfl,by omega,by omega,IQ,E7,HR,K4.then K5 (fun k _ e=>e),?_⟩;intro ls tail hd;obtain⟨x,i,a1,a2,a3,_⟩:=Iu ls tail hd;exfalso;have:decide ((k:Int)+v<256)=true:=by simp;omega
          rw[DK]at this;cases this
      · have EK:=aF d1 1 (.bool false);have K5:Kp w4 (w4.setCell ⟨g,1,none⟩ (.bool false)) (fun k=>k=g):=cv (Kp.refl w4 _) rfl;have IQ:=EZ.of_heap (K5.block _ EZ.lt (by omega));have HR:gn (w4.setCell ⟨g,1,none⟩ (.bool false)) g (l.drop (p+q)) false :=
          ⟨A4,n4,c4,by simpa using EK,d2.kpE K5 (fun a ha=>(d5 a ha).imp (fun e=>by rw[e];rfl) (fun e=>by omega)),d3,d4,d5⟩
        refine⟨_,rfl,⟨_,by rw[aN];exact aA d1 1⟩,by rw[aN];exact aC d1 1,_,rfl,false,?_,fun h=>(by cases h),fun _=>?_⟩
        · rw[aN];simpa using aA EK 1
        · rw[aN];refine⟨by omega,(n-1).toNat,by omega,p+q,k,out,false,rfl,hk,rfl,by omega,by omega,IQ,E7,HR,K4.then K5 (fun k _ e=>e),?_⟩;intro ls tail hd;obtain⟨x,i,a1,a2,_⟩:=Iu ls tail hd;exfalso;have:decide (e=0)=true:=by simpa using a2
          rw[he]at this;cases this
    · exact⟨_,_,out,ok,p,rfl,fin w3 out ho,E7,hN,K3,fun ls tail hd=>by have:=(hc ls tail hd).1;rw[hok]at this;cases this⟩
  · refine⟨_,_,out,ok,p,rfl,fin w3 out ho,E7,hN,K3,fun ls tail hd=>?_⟩;obtain⟨c0,c1,c2,c3⟩:=hc ls tail hd;have MR:dp (ls.drop k)=0:=by omega
    obtain⟨h1,h2⟩:=nQ (ls.drop k) k k MR;rw[h1,List.nil_append]at c3;refine⟨c0,?_,c3⟩;rw[c1];exact AY hd.1 (fun v hv=>(hd.2.1 v hv).1) hk h2
end Go.Proofs.YtlieaecnllkefaaGreat
/-! archipelagoref5's lengths: the walk. -/
namespace Go.Proofs.YtlieaecnllkefaaGreat
open Go Go.V Go.RowKit
end Go.Proofs.YtlieaecnllkefaaGreat
/-! huff.Read: the walk. -/
namespace Go.Proofs.YtlieaecnllkefaaGreat
open Go Go.V Go.RowKit
theorem lF:∀(l:List Int)(s nx:Nat),aR (dE l s nx)
 | [],s,nx=>by intro y hy;simp[dE]at hy
 | x ::l,s,nx=>by
  rw[dE];split
  ·intro y hy;rcases List.mem_append.1 hy with e | e
   ·exact fC _ y e
   ·rcases List.mem_append.1 e with e | e
    ·exact fC _ y e
    ·exact lF l _ _ y e
  ·exact lF l _ _
theorem mV(b:List Int):aR (cW b):=by
 unfold cW;split
 ·exact fC 0
 ·intro y hy;rcases List.mem_append.1 hy with e | e
  ·exact fC _ y e
  ·rcases List.mem_append.1 e with e | e
   ·exact fC _ y e
   ·rcases List.mem_append.1 e with e | e
    ·exact lF _ _ _ y e
    ·exact pJ _ y e
abbrev zC:Value:=.tuple #[.slice none 0 0,.int .i64 21]
theorem Dp{w:World}{b s n c:Nat}{e:TypeId}{A:OA}{xs:List Value}(h:aH w b e s A n c xs):n<=c:=by
 obtain⟨_,⟨_,e1,e2,_⟩ | ⟨g,cur,_,_,_,e,_⟩⟩:=h.cases
 ·omega
 ·exact e
def xu(x:List Int)(ev:Ending)(w':World):Prop :=
 (∃(A':OA)(n' c':Nat)(o:List Int),ev=.returned (.tuple #[.slice A' n' c',.int .i64 0])/\bB w' A' (cz o)/\(n'=o.length/\n'<=c')/\aR o/\o.length<=2^20/\cW o=x) ∨
 (ev=.returned zC/\∀ o,aR o->o.length<2^62->cW o≠x)
theorem tS{w:World}{A B:OA}{n c m d:Nat}{x o:List Int}{R:Ending->World->Prop}{bad good:Ending}(hA:bB w A (cz x))(hn:n=x.length)(hb:aR x)(hB:bB w B (cz o))(hm:m=o.length)(HM:aR o)(hl:m<=2^20)
    (FI:cW o≠x->∀ w',w.grownBy w' none->R bad w') (Gj:cW o=x->∀ w',w.grownBy w' none->R good w') :
    Calls P 69 #[.slice B m d] w fun ev w1=>∃(C:OA)(k e:Nat),ev=.returned (.slice C k e)/\Calls P 50 #[.slice C k e,.slice A n c] w1 fun ev2 w2=>∃ q:Bool,ev2=.returned (.bool q)/\((q=false->R bad w2)/\(¬ q=false->R good w2)):=by
  refine(nd hB hm HM hl).mono fun ev w1 hh=>?_;obtain⟨C,k,e,rfl,oC,g1⟩:=hh;refine⟨_,_,_,rfl,?_⟩;refine(iB oC.row (dj oC) (hA.kept_none g1) hn (mV o) hb).mono fun ev w2 hh=>?_;obtain⟨rfl,rfl⟩:=hh;exact⟨_,rfl,fun h=>FI (by simpa using h) _ g1,fun h=>Gj (by simpa using h) _ g1⟩
theorem CC{o x:List Int}(ho:aR o)(hl:o.length<2^62)(h:cW o=x){most:Int}(hm:2^62<=most):∃ k,cN most x=((o.length:Int),k,0)/\k<=x.length/\(o≠[]->xx (x.drop k) (lr o) (dD (gz (lr o) (fu o)))):=by
 by_cases DJ:o=[]
 ·subst DJ;have:=eZ (most:=most) (n:=0) (by omega) (by omega) [];rw[List.append_nil,show cy 0=x by simpa[cW]using h]at this;refine⟨_,by simpa using this,?_,fun e=>absurd rfl e⟩;rw[← show cy 0=x by simpa[cW]using h];exact Nat.le_refl _
 ·rw[cW,if_neg DJ]at h;have:=eZ (most:=most) (n:=o.length) (by omega) (by omega) (cy (dp (lr o))++(dE (lr o) 0 0++dD (gz (lr o) (fu o))));rw[h]at this;obtain⟨l1,r1,s1,v1⟩:=ff ho DJ;refine⟨_,this,?_,fun _=>⟨l1,v1,?_⟩⟩
  ·rw[← h,List.length_append];omega
  ·rw[← h,List.drop_left]
theorem lE {w :World} {A:OA} {n c:Nat} {x:List Int} (hr:bB w A (cz x)) (hn:n=x.length) (hc:n<=c) (hb:aR x) (hl:x.length<=2^16) :
    Calls P 121 #[.slice A n c] w fun ev w'=>w.grownBy w' none/\xu x ev w':=by
  apply vc121;dsimp only[VC121,rt,Br,Bb,Rs,Ap,cI,cB,cS,nb,iq]
  try simp only[aG]
  have gal:=World.grownBy_alloc w (.cells #[.slice A n c,.bool true] 236) none;have PV:∀ a,A=some a->x=[]∨a.block<w.heap.size:=fun a ha=>by
    by_cases e:x=[]
    · exact .inl e
    · obtain⟨q,q1,q2⟩:=hr.blk (by simpa using e);rw[ha]at q1;cases q1;exact .inr q2
  have So:gn (w.alloc (.cells #[.slice A n c,.bool true] 236)) w.heap.size x true:=⟨A,n,c,heap_alloc_new w _,hr.kept_none gal,hn,hc,PV⟩;refine(mh (most:=9223372036854775807) So hb (by omega) (by omega)).mono fun ev w1 hh=>?_;obtain⟨rfl,JR,k1⟩:=hh;have K1:Kp w w1 (fun k=>w.heap.size<=k):=(Kp.of_none gal).then k1 (fun k _ e=>by omega);have keepX:∀ w',Kp w w' (fun k=>w.heap.size<=k)->bB w' A (cz x):=fun w' K=>hr.kpE K (fun a ha=>(PV a ha).imp (fun e=>by rw[e];rfl) (fun e=>by omega));have grw:∀ w',Kp w w' (fun k=>w.heap.size<=k)->w.grownBy w' none:=fun w' K=>K.grown (fun k hk e=>by omega);have ht:=iW (most:=9223372036854775807) (b:=x) (fun y hy=>(hb y hy).1);have hO:∀ o,aR o->o.length<2^62->cW o=x->∃ k,cN 9223372036854775807 x=((o.length:Int),k,0)/\k<=x.length/\(o≠[]->xx (x.drop k) (lr o) (dD (gz (lr o) (fu o)))):=fun o h1 h2 h3=>CC h1 h2 h3 (by omega);obtain⟨N,k0,e0,hv⟩:∃ v k e,cN 9223372036854775807 x=(v,k,e):=⟨_,_,_,rfl⟩;rw[hv]at ht hO JR ⊢;simp only[Bool.true_and]at ht JR ⊢;obtain⟨A1,n1,c1,b1,b2,b3,b4,b5⟩:=JR;have JR:gn w1 w.heap.size (x.drop k0) (decide (e0=0)):=⟨A1,n1,c1,b1,b2,b3,b4,b5⟩;have DO:w1.cell? ((⟨w.heap.size,0,none⟩:Addr).add 1)=some (.bool (decide (e0=0))):=by rw[aN];exact aA b1 1
  have En:aR (x.drop k0):=fun y hy=>hb y (List.mem_of_mem_drop hy);refine⟨N,rfl,_,rfl,decide (e0=0),DO,fun hok=>⟨fun DZ=>?_,fun hz=>?_⟩,fun hok=>?_⟩
  · have RJ : e0=0:=by simpa using hok
    rw[hok]at JR;have JQ:∀ o,aR o->o.length<2^62->cW o=x->(o.length:Int)=N/\o≠[]/\xx (x.drop k0) (lr o) (dD (gz (lr o) (fu o))):=by
      intro o h1 h2 h3;obtain⟨k,e1,e2,e3⟩:=hO o h1 h2 h3;have a1:N=(o.length:Int):=congrArg Prod.fst e1;have a2:k0=k:=congrArg (fun t=>t.2.1) e1;have DJ:o≠[]:=fun e=>by rw[e]at a1;simp at a1;omega
      subst a2;exact⟨a1.symm,DJ,e3 DJ⟩
    refine(ye JR En (by simp;omega)).mono fun ev w2 hh=>?_;obtain⟨A2,c2,ls,ok,p,rfl,r2,HG,Oa,k2,Gm⟩:=hh;have K2:Kp w w2 (fun k=>w.heap.size<=k):=K1.then k2 (fun k _ e=>by omega);refine⟨_,_,_,rfl,?_⟩;refine(tZ (ls:=ls) r2 HG.symm (by omega)).mono fun ev w3 hh=>?_;obtain⟨g3,Lk⟩:=hh;have K3:Kp w w3 (fun k=>w.heap.size<=k):=K2.step g3 (fun k hk=>by cases hk);have Mi:gn w3 w.heap.size ((x.drop k0).drop p) ok:=Oa.kp (S:=fun _=>False) (Kp.of_none g3) (fun _ _ h=>h);obtain⟨A3,n3,c3,d1,d2,d3,d4,d5⟩:=Mi;have Mi:gn w3 w.heap.size ((x.drop k0).drop p) ok:=⟨A3,n3,c3,d1,d2,d3,d4,d5⟩;have G7:w3.cell? ((⟨w.heap.size,0,none⟩:Addr).add 1)=some (.bool ok):=by rw[aN];exact aA d1 1
    have D9:=grw w3 K3;have Hb:ok=false->xu x (.returned zC) w3:=fun h=>.inr ⟨rfl,fun o h1 h2 h3=>by
      obtain⟨_,_,a3⟩:=JQ o h1 h2 h3;have:=(Gm _ _ a3).1;rw[h]at this;cases this⟩
    rcases Lk with⟨hf,rfl⟩ | ⟨hR,gt,rfl,hT⟩
    · refine⟨_,_,rfl,_,rfl,ok,G7,fun h=>⟨D9,Hb h⟩,fun h=>⟨fun _=>⟨D9,.inr ⟨rfl,fun o h1 h2 h3=>?_⟩⟩,fun h=>absurd rfl h⟩⟩;obtain⟨_,a2,a3⟩:=JQ o h1 h2 h3;have e:=(Gm _ _ a3).2.1;rw[e,(ff h1 a2).2.1]at hf;cases hf
    refine⟨_,_,rfl,_,rfl,ok,G7,fun h=>⟨D9,Hb h⟩,fun Gr=>⟨fun h=>(by cases h),fun _=>?_⟩⟩;have O0:ok=true:=by simpa using Gr
    generalize Ia:(x.drop k0).drop p=rest at *;have FO:rest.length<=x.length:=by rw[← Ia];simp only[List.length_drop];omega
    have QG:aR rest:=fun y hy=>by rw[← Ia]at hy;exact hb y (List.mem_of_mem_drop (List.mem_of_mem_drop hy))
    refine⟨_,rfl,_,_,_,aA d1 0,?_⟩;have glt:=Mi.lt;refine(qm d2 d3 (fun a ha=>(d5 a ha).imp id (fun e=>by omega))).mono fun ev w4 hh=>?_;obtain⟨rfl,PE,g4⟩:=hh;have l34:w3.heap.size<w4.heap.size:=(Array.getElem?_eq_some_iff.1 PE.blk).1;refine⟨_,rfl,?_⟩
    refine⟨fun m n' Ao no co w5=>∃(j at_:Nat)(out:List Int),n'=N-(j:Int)/\(j:Int)<=N/\m=(N-(j:Int)).toNat/\out.length=j/\j<=at_/\aR out/\aH w5 w4.heap.size 5 1 Ao no co (cz out)/\iD w5 w3.heap.size A3 n3 c3 rest at_/\Kp w3 w5 (fun k=>w3.heap.size<=k)/\w4.heap.size<=w5.heap.size ∧
        ∀ o,aR o->o.length<2^62->cW o=x->(∃ r,(aS rest).drop at_=gz ls (fu (o.drop j))++r)/\out=o.take j,
      ⟨_,0,0,[],by omega,by omega,rfl,rfl,by omega,(fun y hy=>by cases hy),aH.nil _ _ _ _,PE,Kp.of_none g4,Nat.le_refl _,fun o h1 h2 h3=>?_⟩,?_⟩
    · obtain⟨a1,a2,a3⟩:=JQ o h1 h2 h3;obtain⟨_,e1,e2⟩:=Gm _ _ a3;refine⟨?_,by simp⟩;rw[e2,fF,e1];exact⟨_,rfl⟩
    rintro m n' Ao no co w5 ⟨j,at_,out,rfl,Ti,rfl,E7,JI,HM,ho,Lx,K5,s45,I9⟩;have K05:Kp w w5 (fun k=>w.heap.size<=k):=K3.then K5 (fun k hk e=>by have:=K3.size;omega);have Ri:=Lx.le;have FP:=dj ho;refine⟨fun DF=>?_,fun DK=>?_⟩
    · have Se :oe w5 w3.heap.size gt ls:=hT.kp K5 (fun k hk e=>by omega);refine(sO Se (Nat.le_refl _) Lx (by omega) QG hR).mono fun ev w6 hh=>?_;obtain⟨rfl,Jq,k6⟩:=hh;have K06:Kp w w6 (fun k=>w.heap.size<=k):=K05.then k6 (fun k _ e=>by have:=K3.size;omega);cases hq:iJ ls 15 0 0 ((aS rest).drop at_)with
      | none =>
        have IF:jF ls rest at_=(.tuple #[.int .i64 0,.bool false],at_):=by unfold jF;rw[hq]
        rw[IF];refine⟨_,_,rfl,fun _=>⟨grw w6 K06,.inr ⟨rfl,fun o h1 h2 h3=>?_⟩⟩,fun h=>absurd rfl h⟩;obtain⟨a1,a2,a3⟩:=JQ o h1 h2 h3;obtain⟨_,e1,e2⟩:=Gm _ _ a3;obtain⟨⟨r,f1⟩,f2⟩:=I9 o h1 h2 h3;have hj:j<o.length:=by omega
        rw[List.drop_eq_getElem_cons hj]at f1;have hs:=(ff h1 a2).2.2.1 o[j].toNat (by simp only[fu];exact List.mem_map_of_mem (List.getElem_mem hj));rw[← e1]at hs;rw[fu,List.map_cons,iT,List.append_assoc]at f1;rw[f1,l8 hR hs]at hq;cases hq
      | some sk =>
        obtain⟨s,k⟩:=sk;have IF:jF ls rest at_=(.tuple #[.int .i64 (s:Int),.bool true],at_+k):=by unfold jF;rw[hq]
        rw[IF]at Jq ⊢;have DH:=tE _ _ _ _ _ _ _ hq;have FY:=ho.kp k6 (fun k hk e=>by have:=ho.block_ge k hk;omega);refine⟨_,_,rfl,fun h=>(by cases h),fun _=>?_⟩;have Rh:=Jq.le;obtain⟨A7,n7,c7,w7,e1,e2,e3,e4⟩:=fM (x:=(s:Int)) FY (by omega) (Nat.le_trans s45 k6.size);refine⟨by omega,_,_,_,w7,e1,by omega,(N-((j+1:Nat):Int)).toNat,by omega,j+1,at_+k,out++[(s:Int)],by omega,by omega,rfl,by simp;omega,by omega,?_,e2,?_,?_,?_,?_⟩
        · intro y hy;rcases List.mem_append.1 hy with e | e
          · exact HM y e
          · have:y=(s:Int):=by simpa using e
            omega
        · refine Jq.kp (Kp.of_grown e3) (fun e=>by have:=FY.block_ge _ e.symm;omega) (fun a ha=>(d5 a ha).imp id (fun e1 e=>by have:=FY.block_ge _ e.symm;omega))
        · exact(K5.then k6 (fun k _ e=>by omega)).step e3 (fun k hk=>.inr (by have:=FY.block_ge _ hk;omega))
        · exact Nat.le_trans s45 (Nat.le_trans k6.size e3.size)
        · intro o h1 h2 h3;obtain⟨a1,a2,a3⟩:=JQ o h1 h2 h3;obtain⟨_,q1,q2⟩:=Gm _ _ a3;obtain⟨⟨r,f1⟩,f2⟩:=I9 o h1 h2 h3;have hj:j<o.length:=by omega
          rw[List.drop_eq_getElem_cons hj]at f1;have hs:=(ff h1 a2).2.2.1 o[j].toNat (by simp only[fu];exact List.mem_map_of_mem (List.getElem_mem hj));rw[← q1]at hs;rw[fu,List.map_cons,iT,List.append_assoc]at f1;rw[f1,l8 hR hs]at hq;have s1:o[j].toNat=s:=by simpa using congrArg (fun q=>q.map Prod.fst) hq
          have s2:(ln ls o[j].toNat).toNat=k:=by simpa using congrArg (fun q=>q.map Prod.snd) hq
          have GI:=h1 _ (List.getElem_mem hj);refine⟨⟨r,?_⟩,?_⟩
          · rw[← List.drop_drop,f1,← s2];have:(cX (cd ls o[j].toNat) (ln ls o[j].toNat).toNat).length=(ln ls o[j].toNat).toNat:=dX _ _;rw[show(cX (cd ls o[j].toNat) (ln ls o[j].toNat).toNat++(gz ls (List.map Int.toNat (o.drop (j+1)))++r)).drop (ln ls o[j].toNat).toNat=(gz ls (List.map Int.toNat (o.drop (j+1)))++r) by
              conv=>lhs;arg 1;rw[← this]
              exact List.drop_left]
          · rw[List.take_succ_eq_append_getElem hj,← f2];congr 2;omega
    · have Rn:(j:Int)=N:=by omega
      have HR:=Mi.kp K5 (fun k hk e=>by omega);obtain⟨A5,n5,c5,q1,q2,q3,q4,q5⟩:=HR;refine⟨_,rfl,ok,by rw[aN];exact aA q1 1,fun h=>absurd h Gr,fun _=>?_⟩;refine tS (R:=fun ev w'=>w.grownBy w' none/\xu x ev w') (keepX w5 K05) hn hb ho.row FP HM (by omega) (fun DJ w' g=>⟨aB (grw w5 K05) g,.inr ⟨rfl,fun o h1 h2 h3=>?_⟩⟩) (fun he w' g=>⟨aB (grw w5 K05) g,.inl ⟨_,_,_,out,rfl,(ho.kept g).row,⟨FP,Dp ho⟩,HM,by omega,he⟩⟩);obtain⟨a1,a2,a3⟩:=JQ o h1 h2 h3;have f2:=(I9 o h1 h2 h3).2;rw[List.take_of_length_le (by omega)]at f2;rw[← f2]at h3;exact DJ h3
  · refine⟨_,rfl,decide (e0=0),DO,fun h=>(by rw[hok]at h;cases h),fun _=>?_⟩;refine tS (R:=fun ev w'=>w.grownBy w' none/\xu x ev w') (o:=[]) (keepX w1 K1) hn hb (bB.nil _ _) rfl (fun y hy=>by cases hy) (by omega) (fun DJ w' g=>⟨aB (grw w1 K1) g,.inr ⟨rfl,fun o h1 h2 h3=>?_⟩⟩) (fun he w' g=>⟨aB (grw w1 K1) g,.inl ⟨_,_,_,[],rfl,bB.nil _ _,⟨rfl,Nat.le_refl _⟩,(fun y hy=>by cases hy),by simp,he⟩⟩);obtain⟨k,e1,_⟩:=hO o h1 h2 h3;have a1:N=(o.length:Int):=congrArg Prod.fst e1;have:o=[]:=List.eq_nil_of_length_eq_zero (by omega);rw[this]at h3;exact DJ h3
  · refine⟨_,rfl,decide (e0=0),DO,fun h=>⟨grw w1 K1,.inr ⟨rfl,fun o h1 h2 h3=>?_⟩⟩,fun h=>absurd hok h⟩;obtain⟨k,e1,_⟩:=hO o h1 h2 h3;have a1:e0=0:=congrArg (fun t=>t.2.2) e1;rw[a1]at hok;simp at hok
end Go.Proofs.YtlieaecnllkefaaGreat
/-! archipelagoref5.Read: the walk. -/
namespace Go.Proofs.YtlieaecnllkefaaGreat
open Go Go.V Go.RowKit
theorem BJ{ls:List Int}(hR:ct ls=true):∀ ss:List Nat,(∀ s∈ss,s<ls.length/\0<ln ls s)->ss.length<=(gz ls ss).length
 | [],_=>by simp
 | s ::ss,h=>by
  have ih:=BJ hR ss (fun t ht=>h t (by simp[ht]));have:=h s (by simp);rw[iT,List.length_append,dX,List.length_cons];omega
theorem md{o x:List Int}(ho:aR o)(h:cW o=x):o.length<=8*x.length:=by
 by_cases DJ:o=[]
 ·subst DJ;simp
 ·obtain⟨l1,r1,s1,v1⟩:=ff ho DJ;have h1:=BJ r1 (fu o) s1;have h2:(dD (gz (lr o) (fu o))).length<=x.length:=by
   rw[← h,cW,if_neg DJ];simp only[List.length_append];omega
  rw[bK]at h2;have h3:(fu o).length=o.length:=by simp
  omega
end Go.Proofs.YtlieaecnllkefaaGreat
/-! archipelagolaw7: texts, what is known. -/
namespace Go.Proofs.YtlieaecnllkefaaGreat
open Go Go.V Go.RowKit
theorem eP(w:World)(cs:Array Value)(t:TypeId)(fr:Nat×Nat):bB (w.alloc (.cells cs t fr)) (some ⟨w.heap.size,0,none⟩) cs.toList:=by
 intro j u hj;refine⟨_,rfl,?_⟩;rw[aN];have:(w.alloc (.cells cs t fr)).heap[w.heap.size]?=some (.cells cs t fr):=by
  show(w.heap.push _)[w.heap.size]?=_;simp
 rw[aA this];simpa using hj
theorem wU(w:World)(C:Array Value)(n c:Nat):Sem.run P (Go.convert 26 26 (.slice (some ⟨w.heap.size,0,none⟩) n c)) (w.alloc (.cells C 5))=.ok (.slice (some ⟨w.heap.size,0,none⟩) n c) (w.alloc (.cells C 5 (C.size,C.size+1))) :=
 Lib.run_convert_bytes_const (P:=P) w 26 5 C n c (by kernel_rfl) (by kernel_rfl)
theorem nK{w:World}{b s n c:Nat}{e:TypeId}{A:OA}{xs:List Value}(h:aH w b e s A n c xs):n<=c:=by
 obtain⟨_,⟨_,e1,e2,_⟩ | ⟨g,cur,_,_,_,e,_⟩⟩:=h.cases
 ·omega
 ·exact e
end Go.Proofs.YtlieaecnllkefaaGreat

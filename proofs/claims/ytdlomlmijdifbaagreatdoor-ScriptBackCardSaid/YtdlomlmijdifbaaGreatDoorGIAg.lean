/- Own texts, packed: A1, A2, A3, I1, I2. -/
import Derived.Test.YtdlomlmijdifbaaGreatDoorGNg
import Derived.Test.YtdlomlmijdifbaaGreatDoorGGg
import Derived.Lib.Strings
import Derived.Lib.ItoaNum
set_option linter.unusedVariables false
set_option linter.unusedSimpArgs false
namespace Go.Proofs.YtdlomlmijdifbaaGreatDoor
open Go Go.V Go.RowKit
def bJ(n:Nat):List Int:=if n<10 then [48+(n:Int)] else bJ (n / 10)++[48+((n % 10:Nat):Int)]
termination_by n
decreasing_by omega
theorem eG{n:Nat}(h:n<10):bJ n=[48+(n:Int)]:=by rw[bJ,if_pos h]
theorem iA{n:Nat}(h:¬ n<10):bJ n=bJ (n / 10)++[48+((n % 10:Nat):Int)]:=by rw[bJ,if_neg h]
def cZ(x:Int):Bool:=decide (48<=x/\x<=57)
theorem lM(n:Nat):∀ x∈bJ n,cZ x=true:=by
 induction n using Nat.strongRecOn with
 | _ n ih =>
  by_cases h:n<10
  ·rw[eG h];intro x hx;simp at hx;subst hx;unfold cZ;simp;omega
  ·rw[iA h];intro x hx;rcases List.mem_append.1 hx with hx | hx
   ·exact ih (n / 10) (by omega) x hx
   ·simp at hx;subst hx;unfold cZ;simp;omega
theorem BX(k n:Nat):n<10^k->0<k->(bJ n).length<=k:=by
 induction k generalizing n with
 | zero=>intro _ h;omega
 | succ k ih =>
  intro h _;by_cases h9:n<10
  ·rw[eG h9];simp
  ·rw[iA h9,List.length_append];have hk:0<k:=by
    rcases Nat.eq_zero_or_pos k with hz | hz
    ·subst hz;simp at h;omega
    ·exact hz
   have:=ih (n / 10) (by rw[Nat.pow_succ]at h;omega) hk;simp;omega
theorem dA{n:Nat}(h:n<2^64):0<(bJ n).length/\(bJ n).length<=20:=by
 refine⟨?_,BX 20 n (Nat.lt_of_lt_of_le h (by decide)) (by omega)⟩;unfold bJ;split <;>simp
theorem Ae(n:Nat):bJ n≠[]:=by
 unfold bJ;split <;>simp
theorem AQ(n:Nat):(bJ n).head?=some 48->n=0:=by
 induction n using Nat.strongRecOn with
 | _ n ih =>
  by_cases h:n<10
  ·rw[eG h];simp;omega
  ·rw[iA h,List.head?_append];intro hx;cases hd:(bJ (n / 10)).head? with
   | none=>exact absurd (List.head?_eq_none_iff.1 hd) (Ae _)
   | some y =>
    rw[hd,Option.some_or]at hx;have:=ih (n / 10) (by omega) (by rw[hd];exact hx);omega
def lL(v:Int)(l:List Int):Int:=l.foldl (fun v x=>v*10+(x-48)) v
theorem vZ(v:Int)(l m:List Int):lL v (l++m)=lL (lL v l) m:=List.foldl_append
theorem vY(n:Nat):lL 0 (bJ n)=n:=by
 induction n using Nat.strongRecOn with
 | _ n ih =>
  by_cases h:n<10
  ·rw[eG h];simp[lL];omega
  ·rw[iA h,vZ,ih (n / 10) (by omega)];simp[lL];omega
theorem mJ{v:Int}(hv:0<=v):∀ {l:List Int},(∀ x∈l,cZ x=true)->v<=lL v l
 | [],_=>by simp[lL]
 | x ::l,h=>by
  have hx:=h x (by simp);unfold cZ at hx;simp only[decide_eq_true_eq]at hx;have:=mJ (v:=v*10+(x-48)) (by omega) (l:=l) fun y hy=>h y (by simp[hy]);show v<=lL (v*10+(x-48)) l;omega
theorem BW{n:Nat}{r:List Int}(hr:∀ x,r.head?=some x->cZ x=false):(bJ n++r).takeWhile cZ=bJ n/\(bJ n++r).dropWhile cZ=r:=by
 constructor
 ·rw[List.takeWhile_append_of_pos (lM n)];cases r with
  | nil=>simp
  | cons x r=>rw[List.takeWhile_cons,hr x rfl];simp
 ·rw[List.dropWhile_append_of_pos (lM n)];cases r with
  | nil=>simp
  | cons x r=>rw[List.dropWhile_cons,hr x rfl];simp
theorem AR(n:Nat):aZ (bJ n):=fun x hx=>by
 have:=lM n x hx;unfold cZ at this;simp only[decide_eq_true_eq]at this;omega
structure Lif where
 u:Int
 v:Int
 f:Int
 t:Int
deriving DecidableEq
instance:Inhabited Lif:=⟨⟨0,0,0,0⟩⟩
theorem sE{a b:ByteArray}(h:a.data.toList=b.data.toList):a=b:=by
 cases a;cases b;simp at h;rw[h]
theorem bG(l:List Int):(aT l).size=l.length:=by
 have:=congrArg List.length (bO l);simpa using this
theorem Au(a b:List Int):aT a++aT b=aT (a++b):=by
 apply sE;rw[bO,List.map_append,← bO a,← bO b];simp[ByteArray.append_eq]
theorem qK(l:List Int)(a b:Nat):(aT l).extract a b=aT ((l.take b).drop a):=by
 apply sE;rw[bO,List.map_drop,List.map_take,← bO l,ByteArray.data_extract,Array.toList_extract,List.extract_eq_take_drop,List.drop_take]
theorem rT{x:Int}(h:0<=x/\x<=255):((UInt8.ofNat x.toNat).toNat:Int)=x:=by
 rw[UInt8.toNat_ofNat'];omega
theorem gQ{l:List Int}(hb:aZ l){i:Nat}(h:i<l.length):bt (aT l) i=l[i]:=by
 unfold bt;rw[bO,List.getD_eq_getElem?_getD,List.getElem?_map,List.getElem?_eq_getElem h];exact rT (hb _ (List.getElem_mem h))
theorem qJ(n:Nat):aT (bJ n)=⟨(Lib.decDigits n).toArray⟩:=by
 apply sE;rw[bO];show _=Lib.decDigits n
 induction n using Nat.strongRecOn with
 | _ n ih =>
  by_cases h:n<10
  ·rw[eG h,Lib.decDigits,dif_pos h,List.map_cons,List.map_nil,show(48+(n:Int)).toNat=48+n by omega]
  ·rw[iA h,Lib.decDigits,dif_neg h,List.map_append,ih (n / 10) (by omega),List.map_cons,List.map_nil,show(48+((n % 10:Nat):Int)).toNat=48+n % 10 by omega]
theorem Cr(p r:List Int):p.isPrefixOf (p++r)=true:=by
 rw[List.isPrefixOf_iff_prefix];exact List.prefix_append p r
structure Sn where
 l:List Int
 p:Int
 q:Int
 e:Int
def skN:Nat->Sn->Sn
 | 0,s=>s
 | n+1,s=>match s.l with
  | []=>s
  | x ::r=>skN n ⟨r,if x=10 then s.p+1 else s.p,if x=10 then 1 else s.q+1,s.e⟩
def dZ(e:Int)(s:Sn):Sn:=if s.e=0 then { s with e:=e } else s
def pS(m:Int):Int->List Int->Option Int
 | v,[]=>some v
 | v,x ::r=>if m<x-48∨(m-(x-48)) / 10<v then none else pS m (v*10+(x-48)) r
def eQ(m:Int)(s:Sn):Int×Sn :=
 if s.e≠0 then(0,s) else if s.l=[] then(0,dZ 20 s) else
 if s.l.takeWhile cZ=[]∨1<(s.l.takeWhile cZ).length/\s.l.head?=some 48 then(0,dZ 21 s) else
 match pS m 0 (s.l.takeWhile cZ)with
 | none=>(0,dZ 22 s)
 | some v=>(v,skN (s.l.takeWhile cZ).length s)
def bY(w:List Int)(s:Sn):Bool×Sn :=
 if s.e≠0 then(false,s) else if w.isPrefixOf s.l=true then(true,skN w.length s) else(false,dZ (if s.l.isPrefixOf w=true then 20 else 21) s)
theorem fI:∀(n:Nat)(s:Sn),(skN n s).l=s.l.drop n
 | 0,s=>rfl
 | n+1,s=>by
  unfold skN;split
  ·rename_i h;rw[h];simp
  ·rename_i x r h;rw[fI,h];simp
theorem iW:∀(n:Nat)(s:Sn),(skN n s).e=s.e
 | 0,s=>rfl
 | n+1,s=>by
  unfold skN;split
  ·rfl
  ·rw[iW]
theorem eZ:∀(n m:Nat)(s:Sn),skN m (skN n s)=skN (n+m) s
 | 0,m,s=>by rw[Nat.zero_add];rfl
 | n+1,m,s=>by
  rw[show n+1+m=(n+m)+1 by omega];obtain⟨l,p,q,e⟩:=s;cases l with
  | nil=>cases m <;>rfl
  | cons x r=>exact eZ n m _
theorem nL(e:Int)(s:Sn):(dZ e s).l=s.l:=by unfold dZ;split <;>rfl
theorem tH{e:Int}{s:Sn}(he:e≠0):(dZ e s).e≠0:=by
 unfold dZ;split
 ·exact he
 ·assumption
theorem rH(f:Int->Bool):∀ l:List Int,l.drop (l.takeWhile f).length=l.dropWhile f
 | []=>rfl
 | x ::r=>by
  rw[List.takeWhile_cons,List.dropWhile_cons];split
  ·exact rH f r
  ·rfl
theorem mA(f:Int->Bool)(l:List Int):l=l.takeWhile f++l.drop (l.takeWhile f).length:=by
 rw[rH,List.takeWhile_append_dropWhile]
theorem gH(w:List Int)(s:Sn):(bY w s).2.l.length<=s.l.length:=by
 unfold bY;split
 ·exact Nat.le_refl _
 ·split
  ·show(skN _ _).l.length<=_;rw[fI,List.length_drop];omega
  ·show(dZ _ _).l.length<=_;rw[nL];exact Nat.le_refl _
theorem lA(m:Int)(s:Sn):(eQ m s).2.l.length<=s.l.length:=by
 unfold eQ;split
 ·exact Nat.le_refl _
 ·split
  ·show(dZ _ _).l.length<=_;rw[nL];exact Nat.le_refl _
  ·split
   ·show(dZ _ _).l.length<=_;rw[nL];exact Nat.le_refl _
   ·split
    ·show(dZ _ _).l.length<=_;rw[nL];exact Nat.le_refl _
    ·show(skN _ _).l.length<=_;rw[fI,List.length_drop];omega
theorem qU{m:Int}:∀ {d:List Int} {v u:Int},(∀ x∈d,cZ x=true)->0<=v->v<=m->pS m v d=some u->u=lL v d/\u<=m
 | [],v,u,_,h0,hm,h=>by unfold pS at h;cases h;exact⟨rfl,hm⟩
 | x ::r,v,u,hd,h0,hm,h=>by
  unfold pS at h;split at h
  ·cases h
  ·rename_i hc;have hx:=hd x (by simp);unfold cZ at hx;simp only[decide_eq_true_eq]at hx;have:=qU (fun y hy=>hd y (by simp[hy])) (by omega) (by omega) h;exact this
theorem qV{m:Int}:∀ {d:List Int} {v:Int},(∀ x∈d,cZ x=true)->0<=v->lL v d<=m->pS m v d=some (lL v d)
 | [],v,_,h0,hm=>rfl
 | x ::r,v,hd,h0,hm=>by
  have hx:=hd x (by simp);unfold cZ at hx;simp only[decide_eq_true_eq]at hx;have hr:∀ y∈r,cZ y=true:=fun y hy=>hd y (by simp[hy]);have h1:lL v (x ::r)=lL (v*10+(x-48)) r:=rfl;rw[h1]at hm ⊢;have:=mJ (v:=v*10+(x-48)) (by omega) hr;unfold pS;rw[if_neg (by omega)];exact qV hr (by omega) hm
theorem lB{m:Int}{n:Nat}{s:Sn}{r:List Int}(he:s.e=0)(hl:s.l=bJ n++r)(hr:∀ x,r.head?=some x->cZ x=false)(hm:(n:Int)<=m):eQ m s=((n:Int),skN (bJ n).length s):=by
  have Jv:=(BW (n:=n) hr).1;have Dq:=Ae n;unfold eQ;rw[if_neg (by simp[he]),if_neg (by rw[hl];simp[Dq]),hl,Jv,if_neg,qV (lM n) (by omega) (by rw[vY];exact hm),vY];rintro(h | ⟨h1,h2⟩)
  · exact Dq h
  · have:(bJ n).head?=some 48:=by
      cases hq:bJ n with
      | nil=>exact absurd hq Dq
      | cons a t=>rw[hq]at h2;simpa using h2
    have:=AQ n this;subst this;rw[eG (by omega)]at h1;simp at h1
theorem gJ{w r:List Int}{s:Sn}(he:s.e=0)(hl:s.l=w++r):bY w s=(true,skN w.length s):=by
 unfold bY;rw[if_neg (by simp[he]),hl,Cr,if_pos rfl]
structure Cm where
 k:Int
 t:Int
 u:Int
 v:Int
deriving DecidableEq
def mM(k:Int)(s:Sn):Cm×Sn :=
 if k=1 then(⟨k,(eQ 9223372036854775807 (bY [32] s).2).1,0,0⟩,(eQ 9223372036854775807 (bY [32] s).2).2)
 else if k=2∨k=5 then(⟨k,0,(eQ 18446744073709551615 (bY [32] s).2).1,(eQ 18446744073709551615 (bY [32] (eQ 18446744073709551615 (bY [32] s).2).2).2).1⟩,(eQ 18446744073709551615 (bY [32] (eQ 18446744073709551615 (bY [32] s).2).2).2).2)
 else if k=3∨k=6 then(⟨k,0,(eQ 18446744073709551615 (bY [32] s).2).1,0⟩,(eQ 18446744073709551615 (bY [32] s).2).2)
 else(⟨k,0,0,0⟩,s)
def iX(k:Int)(s:Sn):Cm×Sn:=((mM k s).1,(bY [10] (mM k s).2).2)
def dL(k:Int):List Int :=
 if k=1 then [115,101,101,107] else if k=2 then [99,111,110,110,101,99,116,101,100] else if k=3 then [115,105,122,101]
 else if k=4 then [99,111,117,110,116] else if k=5 then [104,97,115] else if k=6 then [100,101,103,114,101,101] else []
def cP(w:List Int):Int:=if w=dL 1 then 1 else if w=dL 2 then 2 else if w=dL 3 then 3 else if w=dL 4 then 4 else if w=dL 5 then 5 else if w=dL 6 then 6 else 0
def cX(x:Int):Bool:=decide (97<=x/\x<=122)
def jF:Nat->Sn->List Cm->List Cm×Int×Int×Int
 | 0,s,out=>(out,0,0,0)
 | n+1,s,out=>if s.e≠0 then([],s.p,s.q,s.e) else if s.l=[] then(out,0,0,0) else
  if cP (s.l.takeWhile cX)=0 then([],s.p,s.q,30) else
  jF n (iX (cP (s.l.takeWhile cX)) (skN (s.l.takeWhile cX).length s)).2 (out++[(iX (cP (s.l.takeWhile cX)) (skN (s.l.takeWhile cX).length s)).1])
def AB(l:List Int):List Cm×Int×Int×Int:=jF (l.length+1) ⟨l,1,1,0⟩ []
def aY(c:Cm):Bool :=
 if c.k=1 then decide (0<=c.t/\c.u=0/\c.v=0) else if c.k=2∨c.k=5 then decide (c.t=0) else if c.k=3∨c.k=6 then decide (c.t=0/\c.v=0)
 else if c.k=4 then decide (c.t=0/\c.u=0/\c.v=0) else false
def dQ(c:Cm):List Int :=
 if c.k=1 then 32 ::bJ c.t.toNat else if c.k=2∨c.k=5 then 32 ::bJ c.u.toNat++32 ::bJ c.v.toNat else if c.k=3∨c.k=6 then 32 ::bJ c.u.toNat else []
def lD(c:Cm):List Int:=dL c.k++dQ c++[10]
def gZ(l:List Cm):List Int:=(l.filter aY).flatMap lD
theorem Cb(k:Int)(s:Sn):(mM k s).2.l.length<=s.l.length:=by
 unfold mM;split
 ·exact Nat.le_trans (lA _ _) (gH _ _)
 ·split
  ·exact Nat.le_trans (lA _ _) (Nat.le_trans (gH _ _) (Nat.le_trans (lA _ _) (gH _ _)))
  ·split
   ·exact Nat.le_trans (lA _ _) (gH _ _)
   ·exact Nat.le_refl _
theorem AG(k:Int)(s:Sn):(iX k s).2.l.length<=s.l.length:=Nat.le_trans (gH _ _) (Cb _ _)
theorem vC{w:List Int}(h:cP w≠0):w=dL (cP w)/\(cP w=1∨cP w=2∨cP w=3∨cP w=4∨cP w=5∨cP w=6):=by
 unfold cP at h ⊢
 repeat' split
 all_goals first | (refine⟨by assumption,?_⟩;decide) | (exfalso;simp_all)
theorem zR{k:Int}(h:k=1∨k=2∨k=3∨k=4∨k=5∨k=6):cP (dL k)=k:=by
 rcases h with rfl | rfl | rfl | rfl | rfl | rfl <;>decide
theorem Da{k:Int}:∀ x∈dL k,cX x=true:=by
 unfold dL
 repeat' split
 all_goals decide
theorem zQ{k:Int}(h:dL k=[]):¬ (k=1∨k=2∨k=3∨k=4∨k=5∨k=6):=by
 rintro(rfl | rfl | rfl | rfl | rfl | rfl) <;>simp[dL]at h
def cA(c:Cm):Prop:=(-9223372036854775808<=c.k/\c.k<=9223372036854775807)/\(-9223372036854775808<=c.t/\c.t<=9223372036854775807)/\(0<=c.u/\c.u<=18446744073709551615)/\0<=c.v/\c.v<=18446744073709551615
abbrev jG(k:Int):Prop:=k=1∨k=2∨k=3∨k=4∨k=5∨k=6
theorem iI{c:Cm}(h:aY c=true):jG c.k:=by
 unfold aY at h
 repeat' split at h
 all_goals first | omega | cases h
theorem CM{c:Cm}{s:Sn}{r:List Int}(hc:aY c=true)(hg:cA c)(he:s.e=0)(hl:s.l=dQ c++r)(hr:∀ x,r.head?=some x->cZ x=false):mM c.k s=(c,skN (dQ c).length s):=by
 obtain⟨k,t,u,v⟩:=c;have hk:=iI hc;unfold aY at hc;unfold cA at hg;unfold dQ at hl ⊢;unfold mM;simp only at hk hc hg hl ⊢;have Kr:∀ r:List Int,∀ x,(32 ::r).head?=some x->cZ x=false:=fun r x hx=>by simp at hx;subst hx;rfl
 by_cases h1:k=1
 ·subst h1;simp only[if_true,decide_eq_true_eq]at hc hl ⊢;obtain⟨K7,rfl,rfl⟩:=hc;have w1:bY [32] s=(true,skN 1 s):=gJ he (r:=bJ t.toNat++r) (by rw[hl];rfl);have n1:=lB (m:=9223372036854775807) (n:=t.toNat) (s:=skN 1 s) (r:=r) (by rw[iW];exact he) (by rw[fI,hl];rfl) hr (by omega);rw[w1,n1,eZ,show(t.toNat:Int)=t by omega,List.length_cons,Nat.add_comm]
 ·simp only[if_neg h1]at hc hl ⊢;by_cases h2:k=2∨k=5
  ·simp only[if_pos h2,decide_eq_true_eq]at hc hl ⊢;subst hc;have w1:bY [32] s=(true,skN 1 s):=gJ he (r:=bJ u.toNat++(32 ::(bJ v.toNat++r))) (by rw[hl];simp);have n1:=lB (m:=18446744073709551615) (n:=u.toNat) (s:=skN 1 s) (r:=32 ::(bJ v.toNat++r)) (by rw[iW];exact he) (by rw[fI,hl];simp) (Kr _) (by omega);rw[w1,n1,eZ];simp only;have w2:bY [32] (skN (1+(bJ u.toNat).length) s)=(true,skN 1 (skN (1+(bJ u.toNat).length) s)):=gJ (by rw[iW];exact he) (r:=bJ v.toNat++r) (by rw[fI,hl];simp[Nat.add_comm 1]);rw[w2,eZ];have n2:=lB (m:=18446744073709551615) (n:=v.toNat) (s:=skN (1+(bJ u.toNat).length+1) s) (r:=r) (by rw[iW];exact he) (by
    rw[fI,hl];have:(32 ::bJ u.toNat++32 ::bJ v.toNat++r)=(32 ::bJ u.toNat++[32])++(bJ v.toNat++r):=by simp
    rw[this];exact List.drop_left' (by simp;omega)) hr (by omega)
   rw[n2,eZ,show(u.toNat:Int)=u by omega,show(v.toNat:Int)=v by omega,show(32 ::bJ u.toNat++32 ::bJ v.toNat).length=1+(bJ u.toNat).length+1+(bJ v.toNat).length by simp;omega]
  ·simp only[if_neg h2]at hc hl ⊢;by_cases h3:k=3∨k=6
   ·simp only[if_pos h3,decide_eq_true_eq]at hc hl ⊢;obtain⟨rfl,rfl⟩:=hc;have w1:bY [32] s=(true,skN 1 s):=gJ he (r:=bJ u.toNat++r) (by rw[hl];rfl);have n1:=lB (m:=18446744073709551615) (n:=u.toNat) (s:=skN 1 s) (r:=r) (by rw[iW];exact he) (by rw[fI,hl];rfl) hr (by omega);rw[w1,n1,eZ,show(u.toNat:Int)=u by omega,List.length_cons,Nat.add_comm]
   ·simp only[if_neg h3]at hc hl ⊢;have h4:k=4:=by unfold jG at hk;omega
    subst h4;simp only[if_true,decide_eq_true_eq]at hc;obtain⟨rfl,rfl,rfl⟩:=hc;rfl
theorem BF{w r:List Int}(hw:∀ x∈w,cX x=true)(hr:∀ x,r.head?=some x->cX x=false):(w++r).takeWhile cX=w:=by
 rw[List.takeWhile_append_of_pos hw];cases r with
 | nil=>simp
 | cons x r=>rw[List.takeWhile_cons,hr x rfl];simp
theorem Bz{n:Nat}{s:Sn}{out:List Cm}{c:Cm}{r:List Int}(hc:aY c=true)(hg:cA c)(he:s.e=0)(hl:s.l=dL c.k++(dQ c++r))(h1:∀ x,r.head?=some x->cZ x=false)(h2:∀ x,(dQ c++r).head?=some x->cX x=false):
    jF (n+1) s out=jF n (bY [10] (skN ((dL c.k).length+(dQ c).length) s)).2 (out++[c]):=by
  have hk:=iI hc;have Dq:s.l≠[]:=by
    rw[hl];intro h;exact zQ (List.append_eq_nil_iff.1 h).1 hk
  have ht:s.l.takeWhile cX=dL c.k:=by rw[hl];exact BF Da h2
  conv=>lhs;unfold jF
  rw[if_neg (by simp[he]),if_neg Dq,ht,zR hk,if_neg (by unfold jG at hk;omega)];unfold iX;rw[CM hc hg (by rw[iW];exact he) (by rw[fI,hl,List.drop_left]) h1,eZ]
theorem BM{c:Cm}{r:List Int}(h:dQ c≠[]∨∀ x,r.head?=some x->cX x=false):∀ x,(dQ c++r).head?=some x->cX x=false:=by
 intro x hx;cases hq:dQ c with
 | nil=>rw[hq]at h hx;exact(h.resolve_left (by simp)) x hx
 | cons a t =>
  rw[hq]at hx;have ha:a=32:=by
   unfold dQ at hq
   repeat' split at hq
   all_goals simp at hq
   all_goals omega
  simp at hx;subst hx;subst ha;rfl
theorem qN:∀(b:List Cm)(n:Nat)(s:Sn)(out:List Cm),(∀ c∈b,aY c=true/\cA c)->s.e=0->s.l=b.flatMap lD->s.l.length<n->jF n s out=(out++b,0,0,0)
 | [],n,s,out,_,he,hl,hn=>by
  match n with
  | n+1 =>
   unfold jF;rw[if_neg (by simp[he]),if_pos (by rw[hl];rfl),List.append_nil]
 | c ::b,n,s,out,hb,he,hl,hn=>by
  obtain⟨hc,hg⟩:=hb c (by simp)
  match n with
  | n+1 =>
   have FA:s.l=dL c.k++(dQ c++(10 ::b.flatMap lD)):=by rw[hl,List.flatMap_cons];unfold lD;simp
   have hd:(dL c.k++dQ c).length=(dL c.k).length+(dQ c).length:=List.length_append;have hw:bY [10] (skN ((dL c.k).length+(dQ c).length) s)=(true,skN 1 (skN ((dL c.k).length+(dQ c).length) s)):=gJ (by rw[iW];exact he) (r:=b.flatMap lD) (by
    rw[fI,FA,← List.append_assoc,← hd,List.drop_left];rfl)
   rw[Bz hc hg he FA (fun x hx=>by simp at hx;subst hx;rfl) (BM (.inr fun x hx=>by simp at hx;subst hx;rfl)),hw,eZ];have EN:(skN ((dL c.k).length+(dQ c).length+1) s).l=b.flatMap lD:=by
    rw[fI,FA,← List.append_assoc,← hd,show dL c.k++dQ c++10 ::b.flatMap lD=(dL c.k++dQ c++[10])++b.flatMap lD by simp];exact List.drop_left' (by simp;omega)
   rw[qN b n _ _ (fun c hc=>hb c (by simp[hc])) (by rw[iW];exact he) EN (by
    have:=congrArg List.length FA;rw[EN];simp only[List.length_append,List.length_cons]at this;omega)]
   simp
theorem Cq{l:List Cm}(h:∀ c∈l,cA c):AB (gZ l)=(l.filter aY,0,0,0):=by
 unfold AB;exact qN (l.filter aY) _ _ _ (fun c hc=>⟨(List.mem_filter.1 hc).2,h c (List.mem_filter.1 hc).1⟩) rfl rfl (Nat.lt_succ_self _)
end Go.Proofs.YtdlomlmijdifbaaGreatDoor

/- Own texts, packed: A1, A2, A3, I1, I2. -/
import Derived.Test.YtdlomlmijdifbaaGreatDoorGNg
import Derived.Test.YtdlomlmijdifbaaGreatDoorGGg
import Derived.Lib.Strings
import Derived.Lib.ItoaNum
set_option linter.unusedVariables false
set_option linter.unusedSimpArgs false
namespace Go.Proofs.YtdlomlmijdifbaaGreatDoor
open Go Go.V Go.RowKit
def bD(n:Nat):List Int:=if n<10 then [48+(n:Int)] else bD (n / 10)++[48+((n % 10:Nat):Int)]
termination_by n
decreasing_by omega
theorem dZ{n:Nat}(h:n<10):bD n=[48+(n:Int)]:=by rw[bD,if_pos h]
theorem iI{n:Nat}(h:¬ n<10):bD n=bD (n / 10)++[48+((n % 10:Nat):Int)]:=by rw[bD,if_neg h]
def bX(x:Int):Bool:=decide (48<=x/\x<=57)
theorem iH(n:Nat):∀ x∈bD n,bX x=true:=by
 induction n using Nat.strongRecOn with
 | _ n ih =>
  by_cases h:n<10
  ·rw[dZ h];intro x hx;simp at hx;subst hx;unfold bX;simp;omega
  ·rw[iI h];intro x hx;rcases List.mem_append.1 hx with hx | hx
   ·exact ih (n / 10) (by omega) x hx
   ·simp at hx;subst hx;unfold bX;simp;omega
theorem Ar(k n:Nat):n<10^k->0<k->(bD n).length<=k:=by
 induction k generalizing n with
 | zero=>intro _ h;omega
 | succ k ih =>
  intro h _;by_cases h9:n<10
  ·rw[dZ h9];simp
  ·rw[iI h9,List.length_append];have hk:0<k:=by
    rcases Nat.eq_zero_or_pos k with hz | hz
    ·subst hz;simp at h;omega
    ·exact hz
   have:=ih (n / 10) (by rw[Nat.pow_succ]at h;omega) hk;simp;omega
theorem eV{n:Nat}(h:n<2^64):0<(bD n).length/\(bD n).length<=20:=by
 refine⟨?_,Ar 20 n (Nat.lt_of_lt_of_le h (by decide)) (by omega)⟩;unfold bD;split <;>simp
theorem qS(n:Nat):bD n≠[]:=by
 unfold bD;split <;>simp
theorem yO(n:Nat):(bD n).head?=some 48->n=0:=by
 induction n using Nat.strongRecOn with
 | _ n ih =>
  by_cases h:n<10
  ·rw[dZ h];simp;omega
  ·rw[iI h,List.head?_append];intro hx;cases hd:(bD (n / 10)).head? with
   | none=>exact absurd (List.head?_eq_none_iff.1 hd) (qS _)
   | some y =>
    rw[hd,Option.some_or]at hx;have:=ih (n / 10) (by omega) (by rw[hd];exact hx);omega
def kJ(v:Int)(l:List Int):Int:=l.foldl (fun v x=>v*10+(x-48)) v
theorem tT(v:Int)(l m:List Int):kJ v (l++m)=kJ (kJ v l) m:=List.foldl_append
theorem tS(n:Nat):kJ 0 (bD n)=n:=by
 induction n using Nat.strongRecOn with
 | _ n ih =>
  by_cases h:n<10
  ·rw[dZ h];simp[kJ];omega
  ·rw[iI h,tT,ih (n / 10) (by omega)];simp[kJ];omega
theorem lE{v:Int}(hv:0<=v):∀ {l:List Int},(∀ x∈l,bX x=true)->v<=kJ v l
 | [],_=>by simp[kJ]
 | x ::l,h=>by
  have hx:=h x (by simp);unfold bX at hx;simp only[decide_eq_true_eq]at hx;have:=lE (v:=v*10+(x-48)) (by omega) (l:=l) fun y hy=>h y (by simp[hy]);show v<=kJ (v*10+(x-48)) l;omega
theorem Aq{n:Nat}{r:List Int}(hr:∀ x,r.head?=some x->bX x=false):(bD n++r).takeWhile bX=bD n/\(bD n++r).dropWhile bX=r:=by
 constructor
 ·rw[List.takeWhile_append_of_pos (iH n)];cases r with
  | nil=>simp
  | cons x r=>rw[List.takeWhile_cons,hr x rfl];simp
 ·rw[List.dropWhile_append_of_pos (iH n)];cases r with
  | nil=>simp
  | cons x r=>rw[List.dropWhile_cons,hr x rfl];simp
theorem yP(n:Nat):bB (bD n):=fun x hx=>by
 have:=iH n x hx;unfold bX at this;simp only[decide_eq_true_eq]at this;omega
structure Lif where
 u:Int
 v:Int
 f:Int
 t:Int
deriving DecidableEq
instance:Inhabited Lif:=⟨⟨0,0,0,0⟩⟩
theorem pS{a b:ByteArray}(h:a.data.toList=b.data.toList):a=b:=by
 cases a;cases b;simp at h;rw[h]
theorem aZ(l:List Int):(aO l).size=l.length:=by
 have:=congrArg List.length (bG l);simpa using this
theorem xX(a b:List Int):aO a++aO b=aO (a++b):=by
 apply pS;rw[bG,List.map_append,← bG a,← bG b];simp[ByteArray.append_eq]
theorem kW(l:List Int)(a b:Nat):(aO l).extract a b=aO ((l.take b).drop a):=by
 apply pS;rw[bG,List.map_drop,List.map_take,← bG l,ByteArray.data_extract,Array.toList_extract,List.extract_eq_take_drop,List.drop_take]
theorem pL{x:Int}(h:0<=x/\x<=255):((UInt8.ofNat x.toNat).toNat:Int)=x:=by
 rw[UInt8.toNat_ofNat'];omega
theorem fS{l:List Int}(hb:bB l){i:Nat}(h:i<l.length):bt (aO l) i=l[i]:=by
 unfold bt;rw[bG,List.getD_eq_getElem?_getD,List.getElem?_map,List.getElem?_eq_getElem h];exact pL (hb _ (List.getElem_mem h))
theorem oL(n:Nat):aO (bD n)=⟨(Lib.decDigits n).toArray⟩:=by
 apply pS;rw[bG];show _=Lib.decDigits n
 induction n using Nat.strongRecOn with
 | _ n ih =>
  by_cases h:n<10
  ·rw[dZ h,Lib.decDigits,dif_pos h,List.map_cons,List.map_nil,show(48+(n:Int)).toNat=48+n by omega]
  ·rw[iI h,Lib.decDigits,dif_neg h,List.map_append,ih (n / 10) (by omega),List.map_cons,List.map_nil,show(48+((n % 10:Nat):Int)).toNat=48+n % 10 by omega]
theorem AU(p r:List Int):p.isPrefixOf (p++r)=true:=by
 rw[List.isPrefixOf_iff_prefix];exact List.prefix_append p r
structure Sn where
 l:List Int
 p:Int
 q:Int
 e:Int
def skN:Nat->Sn->Sn
 | 0,s=>s
 | n+1,s=>match s.l with
  | []=>s
  | x ::r=>skN n ⟨r,if x=10 then s.p+1 else s.p,if x=10 then 1 else s.q+1,s.e⟩
def cM(e:Int)(s:Sn):Sn:=if s.e=0 then { s with e:=e } else s
def nY(m:Int):Int->List Int->Option Int
 | v,[]=>some v
 | v,x ::r=>if m<x-48∨(m-(x-48)) / 10<v then none else nY m (v*10+(x-48)) r
def dQ(m:Int)(s:Sn):Int×Sn :=
 if s.e≠0 then(0,s) else if s.l=[] then(0,cM 20 s) else
 if s.l.takeWhile bX=[]∨1<(s.l.takeWhile bX).length/\s.l.head?=some 48 then(0,cM 21 s) else
 match nY m 0 (s.l.takeWhile bX)with
 | none=>(0,cM 22 s)
 | some v=>(v,skN (s.l.takeWhile bX).length s)
def bE(w:List Int)(s:Sn):Bool×Sn :=
 if s.e≠0 then(false,s) else if w.isPrefixOf s.l=true then(true,skN w.length s) else(false,cM (if s.l.isPrefixOf w=true then 20 else 21) s)
theorem eH:∀(n:Nat)(s:Sn),(skN n s).l=s.l.drop n
 | 0,s=>rfl
 | n+1,s=>by
  unfold skN;split
  ·rename_i h;rw[h];simp
  ·rename_i x r h;rw[eH,h];simp
theorem fT:∀(n:Nat)(s:Sn),(skN n s).e=s.e
 | 0,s=>rfl
 | n+1,s=>by
  unfold skN;split
  ·rfl
  ·rw[fT]
theorem BA:∀(n:Nat)(s:Sn),(∀ x∈s.l.take n,x≠10)->(skN n s).p=s.p
 | 0,s,_=>rfl
 | n+1,s,h=>by
  unfold skN;split
  ·rfl
  ·rename_i x r e;rw[e,List.take_succ_cons]at h;rw[BA n _ (fun y hy=>h y (by simp only[List.mem_cons];exact .inr hy)),if_neg (h x (by simp))]
theorem eE:∀(n m:Nat)(s:Sn),skN m (skN n s)=skN (n+m) s
 | 0,m,s=>by rw[Nat.zero_add];rfl
 | n+1,m,s=>by
  rw[show n+1+m=(n+m)+1 by omega];obtain⟨l,p,q,e⟩:=s;cases l with
  | nil=>cases m <;>rfl
  | cons x r=>exact eE n m _
theorem lY(e:Int)(s:Sn):(cM e s).l=s.l:=by unfold cM;split <;>rfl
theorem qP{e:Int}{s:Sn}(he:e≠0):(cM e s).e≠0:=by
 unfold cM;split
 ·exact he
 ·assumption
theorem pG(f:Int->Bool):∀ l:List Int,l.drop (l.takeWhile f).length=l.dropWhile f
 | []=>rfl
 | x ::r=>by
  rw[List.takeWhile_cons,List.dropWhile_cons];split
  ·exact pG f r
  ·rfl
theorem kX(f:Int->Bool)(l:List Int):l=l.takeWhile f++l.drop (l.takeWhile f).length:=by
 rw[pG,List.takeWhile_append_dropWhile]
theorem fL(w:List Int)(s:Sn):(bE w s).2.l.length<=s.l.length:=by
 unfold bE;split
 ·exact Nat.le_refl _
 ·split
  ·show(skN _ _).l.length<=_;rw[eH,List.length_drop];omega
  ·show(cM _ _).l.length<=_;rw[lY];exact Nat.le_refl _
theorem jZ(m:Int)(s:Sn):(dQ m s).2.l.length<=s.l.length:=by
 unfold dQ;split
 ·exact Nat.le_refl _
 ·split
  ·show(cM _ _).l.length<=_;rw[lY];exact Nat.le_refl _
  ·split
   ·show(cM _ _).l.length<=_;rw[lY];exact Nat.le_refl _
   ·split
    ·show(cM _ _).l.length<=_;rw[lY];exact Nat.le_refl _
    ·show(skN _ _).l.length<=_;rw[eH,List.length_drop];omega
theorem oY{m:Int}:∀ {d:List Int} {v u:Int},(∀ x∈d,bX x=true)->0<=v->v<=m->nY m v d=some u->u=kJ v d/\u<=m
 | [],v,u,_,h0,hm,h=>by unfold nY at h;cases h;exact⟨rfl,hm⟩
 | x ::r,v,u,hd,h0,hm,h=>by
  unfold nY at h;split at h
  ·cases h
  ·rename_i hc;have hx:=hd x (by simp);unfold bX at hx;simp only[decide_eq_true_eq]at hx;have:=oY (fun y hy=>hd y (by simp[hy])) (by omega) (by omega) h;exact this
theorem oZ{m:Int}:∀ {d:List Int} {v:Int},(∀ x∈d,bX x=true)->0<=v->kJ v d<=m->nY m v d=some (kJ v d)
 | [],v,_,h0,hm=>rfl
 | x ::r,v,hd,h0,hm=>by
  have hx:=hd x (by simp);unfold bX at hx;simp only[decide_eq_true_eq]at hx;have hr:∀ y∈r,bX y=true:=fun y hy=>hd y (by simp[hy]);have h1:kJ v (x ::r)=kJ (v*10+(x-48)) r:=rfl;rw[h1]at hm ⊢;have:=lE (v:=v*10+(x-48)) (by omega) hr;unfold nY;rw[if_neg (by omega)];exact oZ hr (by omega) hm
theorem kA{m:Int}{n:Nat}{s:Sn}{r:List Int}(he:s.e=0)(hl:s.l=bD n++r)(hr:∀ x,r.head?=some x->bX x=false)(hm:(n:Int)<=m):dQ m s=((n:Int),skN (bD n).length s):=by
  have Hd:=(Aq (n:=n) hr).1;have Cg:=qS n;unfold dQ;rw[if_neg (by simp[he]),if_neg (by rw[hl];simp[Cg]),hl,Hd,if_neg,oZ (iH n) (by omega) (by rw[tS];exact hm),tS];rintro(h | ⟨h1,h2⟩)
  · exact Cg h
  · have:(bD n).head?=some 48:=by
      cases hq:bD n with
      | nil=>exact absurd hq Cg
      | cons a t=>rw[hq]at h2;simpa using h2
    have:=yO n this;subst this;rw[dZ (by omega)]at h1;simp at h1
theorem fM{w r:List Int}{s:Sn}(he:s.e=0)(hl:s.l=w++r):bE w s=(true,skN w.length s):=by
 unfold bE;rw[if_neg (by simp[he]),hl,AU,if_pos rfl]
structure Cm where
 k:Int
 t:Int
 u:Int
 v:Int
deriving DecidableEq
def lG(k:Int)(s:Sn):Cm×Sn :=
 if k=1 then(⟨k,(dQ 9223372036854775807 (bE [32] s).2).1,0,0⟩,(dQ 9223372036854775807 (bE [32] s).2).2)
 else if k=2∨k=5 then(⟨k,0,(dQ 18446744073709551615 (bE [32] s).2).1,(dQ 18446744073709551615 (bE [32] (dQ 18446744073709551615 (bE [32] s).2).2).2).1⟩,(dQ 18446744073709551615 (bE [32] (dQ 18446744073709551615 (bE [32] s).2).2).2).2)
 else if k=3∨k=6 then(⟨k,0,(dQ 18446744073709551615 (bE [32] s).2).1,0⟩,(dQ 18446744073709551615 (bE [32] s).2).2)
 else(⟨k,0,0,0⟩,s)
def gQ(k:Int)(s:Sn):Cm×Sn:=((lG k s).1,(bE [10] (lG k s).2).2)
def bN(k:Int):List Int :=
 if k=1 then [115,101,101,107] else if k=2 then [99,111,110,110,101,99,116,101,100] else if k=3 then [115,105,122,101]
 else if k=4 then [99,111,117,110,116] else if k=5 then [104,97,115] else if k=6 then [100,101,103,114,101,101] else []
def bU(w:List Int):Int:=if w=bN 1 then 1 else if w=bN 2 then 2 else if w=bN 3 then 3 else if w=bN 4 then 4 else if w=bN 5 then 5 else if w=bN 6 then 6 else 0
def bO(x:Int):Bool:=decide (97<=x/\x<=122)
def dO:Nat->Sn->List Cm->List Cm×Int×Int×Int
 | 0,s,out=>(out,0,0,0)
 | n+1,s,out=>if s.e≠0 then([],s.p,s.q,s.e) else if s.l=[] then(out,0,0,0) else
  if bU (s.l.takeWhile bO)=0 then([],s.p,s.q,30) else
  dO n (gQ (bU (s.l.takeWhile bO)) (skN (s.l.takeWhile bO).length s)).2 (out++[(gQ (bU (s.l.takeWhile bO)) (skN (s.l.takeWhile bO).length s)).1])
def eS(l:List Int):List Cm×Int×Int×Int:=dO (l.length+1) ⟨l,1,1,0⟩ []
def bH(c:Cm):Bool :=
 if c.k=1 then decide (0<=c.t/\c.u=0/\c.v=0) else if c.k=2∨c.k=5 then decide (c.t=0) else if c.k=3∨c.k=6 then decide (c.t=0/\c.v=0)
 else if c.k=4 then decide (c.t=0/\c.u=0/\c.v=0) else false
def aW(c:Cm):List Int :=
 if c.k=1 then 32 ::bD c.t.toNat else if c.k=2∨c.k=5 then 32 ::bD c.u.toNat++32 ::bD c.v.toNat else if c.k=3∨c.k=6 then 32 ::bD c.u.toNat else []
def dW(c:Cm):List Int:=bN c.k++aW c++[10]
def iV(l:List Cm):List Int:=(l.filter bH).flatMap dW
theorem AC(k:Int)(s:Sn):(lG k s).2.l.length<=s.l.length:=by
 unfold lG;split
 ·exact Nat.le_trans (jZ _ _) (fL _ _)
 ·split
  ·exact Nat.le_trans (jZ _ _) (Nat.le_trans (fL _ _) (Nat.le_trans (jZ _ _) (fL _ _)))
  ·split
   ·exact Nat.le_trans (jZ _ _) (fL _ _)
   ·exact Nat.le_refl _
theorem yI(k:Int)(s:Sn):(gQ k s).2.l.length<=s.l.length:=Nat.le_trans (fL _ _) (AC _ _)
theorem sV{w:List Int}(h:bU w≠0):w=bN (bU w)/\(bU w=1∨bU w=2∨bU w=3∨bU w=4∨bU w=5∨bU w=6):=by
 unfold bU at h ⊢
 repeat' split
 all_goals first | (refine⟨by assumption,?_⟩;decide) | (exfalso;simp_all)
theorem xG{k:Int}(h:k=1∨k=2∨k=3∨k=4∨k=5∨k=6):bU (bN k)=k:=by
 rcases h with rfl | rfl | rfl | rfl | rfl | rfl <;>decide
theorem Ab{k:Int}:∀ x∈bN k,bO x=true:=by
 unfold bN
 repeat' split
 all_goals decide
theorem sU{k:Int}(h:bN k=[]):¬ (k=1∨k=2∨k=3∨k=4∨k=5∨k=6):=by
 rintro(rfl | rfl | rfl | rfl | rfl | rfl) <;>simp[bN]at h
def cC(c:Cm):Prop:=(-9223372036854775808<=c.k/\c.k<=9223372036854775807)/\(-9223372036854775808<=c.t/\c.t<=9223372036854775807)/\(0<=c.u/\c.u<=18446744073709551615)/\0<=c.v/\c.v<=18446744073709551615
abbrev gR(k:Int):Prop:=k=1∨k=2∨k=3∨k=4∨k=5∨k=6
theorem dV{c:Cm}(h:bH c=true):gR c.k:=by
 unfold bH at h
 repeat' split at h
 all_goals first | omega | cases h
theorem Bo{c:Cm}{s:Sn}{r:List Int}(hc:bH c=true)(hg:cC c)(he:s.e=0)(hl:s.l=aW c++r)(hr:∀ x,r.head?=some x->bX x=false):lG c.k s=(c,skN (aW c).length s):=by
 obtain⟨k,t,u,v⟩:=c;have hk:=dV hc;unfold bH at hc;unfold cC at hg;unfold aW at hl ⊢;unfold lG;simp only at hk hc hg hl ⊢;have Ie:∀ r:List Int,∀ x,(32 ::r).head?=some x->bX x=false:=fun r x hx=>by simp at hx;subst hx;rfl
 by_cases h1:k=1
 ·subst h1;simp only[if_true,decide_eq_true_eq]at hc hl ⊢;obtain⟨IK,rfl,rfl⟩:=hc;have w1:bE [32] s=(true,skN 1 s):=fM he (r:=bD t.toNat++r) (by rw[hl];rfl);have n1:=kA (m:=9223372036854775807) (n:=t.toNat) (s:=skN 1 s) (r:=r) (by rw[fT];exact he) (by rw[eH,hl];rfl) hr (by omega);rw[w1,n1,eE,show(t.toNat:Int)=t by omega,List.length_cons,Nat.add_comm]
 ·simp only[if_neg h1]at hc hl ⊢;by_cases h2:k=2∨k=5
  ·simp only[if_pos h2,decide_eq_true_eq]at hc hl ⊢;subst hc;have w1:bE [32] s=(true,skN 1 s):=fM he (r:=bD u.toNat++(32 ::(bD v.toNat++r))) (by rw[hl];simp);have n1:=kA (m:=18446744073709551615) (n:=u.toNat) (s:=skN 1 s) (r:=32 ::(bD v.toNat++r)) (by rw[fT];exact he) (by rw[eH,hl];simp) (Ie _) (by omega);rw[w1,n1,eE];simp only;have w2:bE [32] (skN (1+(bD u.toNat).length) s)=(true,skN 1 (skN (1+(bD u.toNat).length) s)):=fM (by rw[fT];exact he) (r:=bD v.toNat++r) (by rw[eH,hl];simp[Nat.add_comm 1]);rw[w2,eE];have n2:=kA (m:=18446744073709551615) (n:=v.toNat) (s:=skN (1+(bD u.toNat).length+1) s) (r:=r) (by rw[fT];exact he) (by
    rw[eH,hl];have:(32 ::bD u.toNat++32 ::bD v.toNat++r)=(32 ::bD u.toNat++[32])++(bD v.toNat++r):=by simp
    rw[this];exact List.drop_left' (by simp;omega)) hr (by omega)
   rw[n2,eE,show(u.toNat:Int)=u by omega,show(v.toNat:Int)=v by omega,show(32 ::bD u.toNat++32 ::bD v.toNat).length=1+(bD u.toNat).length+1+(bD v.toNat).length by simp;omega]
  ·simp only[if_neg h2]at hc hl ⊢;by_cases h3:k=3∨k=6
   ·simp only[if_pos h3,decide_eq_true_eq]at hc hl ⊢;obtain⟨rfl,rfl⟩:=hc;have w1:bE [32] s=(true,skN 1 s):=fM he (r:=bD u.toNat++r) (by rw[hl];rfl);have n1:=kA (m:=18446744073709551615) (n:=u.toNat) (s:=skN 1 s) (r:=r) (by rw[fT];exact he) (by rw[eH,hl];rfl) hr (by omega);rw[w1,n1,eE,show(u.toNat:Int)=u by omega,List.length_cons,Nat.add_comm]
   ·simp only[if_neg h3]at hc hl ⊢;have h4:k=4:=by unfold gR at hk;omega
    subst h4;simp only[if_true,decide_eq_true_eq]at hc;obtain⟨rfl,rfl,rfl⟩:=hc;rfl
theorem zZ{w r:List Int}(hw:∀ x∈w,bO x=true)(hr:∀ x,r.head?=some x->bO x=false):(w++r).takeWhile bO=w:=by
 rw[List.takeWhile_append_of_pos hw];cases r with
 | nil=>simp
 | cons x r=>rw[List.takeWhile_cons,hr x rfl];simp
theorem mX{n:Nat}{s:Sn}{out:List Cm}{c:Cm}{r:List Int}(hc:bH c=true)(hg:cC c)(he:s.e=0)(hl:s.l=bN c.k++(aW c++r))(h1:∀ x,r.head?=some x->bX x=false)(h2:∀ x,(aW c++r).head?=some x->bO x=false):
    dO (n+1) s out=dO n (bE [10] (skN ((bN c.k).length+(aW c).length) s)).2 (out++[c]):=by
  have hk:=dV hc;have Cg:s.l≠[]:=by
    rw[hl];intro h;exact sU (List.append_eq_nil_iff.1 h).1 hk
  have ht:s.l.takeWhile bO=bN c.k:=by rw[hl];exact zZ Ab h2
  conv=>lhs;unfold dO
  rw[if_neg (by simp[he]),if_neg Cg,ht,xG hk,if_neg (by unfold gR at hk;omega)];unfold gQ;rw[Bo hc hg (by rw[fT];exact he) (by rw[eH,hl,List.drop_left]) h1,eE]
theorem nH{c:Cm}{r:List Int}(h:aW c≠[]∨∀ x,r.head?=some x->bO x=false):∀ x,(aW c++r).head?=some x->bO x=false:=by
 intro x hx;cases hq:aW c with
 | nil=>rw[hq]at h hx;exact(h.resolve_left (by simp)) x hx
 | cons a t =>
  rw[hq]at hx;have ha:a=32:=by
   unfold aW at hq
   repeat' split at hq
   all_goals simp at hq
   all_goals omega
  simp at hx;subst hx;subst ha;rfl
theorem oO:∀(b:List Cm)(n:Nat)(s:Sn)(out:List Cm),(∀ c∈b,bH c=true/\cC c)->s.e=0->s.l=b.flatMap dW->s.l.length<n->dO n s out=(out++b,0,0,0)
 | [],n,s,out,_,he,hl,hn=>by
  match n with
  | n+1 =>
   unfold dO;rw[if_neg (by simp[he]),if_pos (by rw[hl];rfl),List.append_nil]
 | c ::b,n,s,out,hb,he,hl,hn=>by
  obtain⟨hc,hg⟩:=hb c (by simp)
  match n with
  | n+1 =>
   have DL:s.l=bN c.k++(aW c++(10 ::b.flatMap dW)):=by rw[hl,List.flatMap_cons];unfold dW;simp
   have hd:(bN c.k++aW c).length=(bN c.k).length+(aW c).length:=List.length_append;have hw:bE [10] (skN ((bN c.k).length+(aW c).length) s)=(true,skN 1 (skN ((bN c.k).length+(aW c).length) s)):=fM (by rw[fT];exact he) (r:=b.flatMap dW) (by
    rw[eH,DL,← List.append_assoc,← hd,List.drop_left];rfl)
   rw[mX hc hg he DL (fun x hx=>by simp at hx;subst hx;rfl) (nH (.inr fun x hx=>by simp at hx;subst hx;rfl)),hw,eE];have DK:(skN ((bN c.k).length+(aW c).length+1) s).l=b.flatMap dW:=by
    rw[eH,DL,← List.append_assoc,← hd,show bN c.k++aW c++10 ::b.flatMap dW=(bN c.k++aW c++[10])++b.flatMap dW by simp];exact List.drop_left' (by simp;omega)
   rw[oO b n _ _ (fun c hc=>hb c (by simp[hc])) (by rw[fT];exact he) DK (by
    have:=congrArg List.length DL;rw[DK];simp only[List.length_append,List.length_cons]at this;omega)]
   simp
theorem AS{l:List Cm}(h:∀ c∈l,cC c):eS (iV l)=(l.filter bH,0,0,0):=by
 unfold eS;exact oO (l.filter bH) _ _ _ (fun c hc=>⟨(List.mem_filter.1 hc).2,h c (List.mem_filter.1 hc).1⟩) rfl rfl (Nat.lt_succ_self _)
theorem sJ {c:Cm} {r:List Int} (hc:bH c=true) (hg:cC c) (h1:∀ x,r.head?=some x->bX x=false) (h2:aW c≠[]∨∀ x,r.head?=some x->bO x=false) :
    ∃ m s,eS (bN c.k++(aW c++r))=dO (m+1) (bE [10] s).2 [c]/\s.l=r/\s.e=0/\s.p=1:=by
  have hk:=dV hc;have no10:∀ x∈bN c.k++aW c,x≠10:=by
    intro x hx;rcases List.mem_append.1 hx with hx | hx
    · have:=Ab x hx;rintro rfl;simp[bO]at this
    · have hd:∀ n,∀ x∈bD n,x≠10:=fun n x hx=>by
        have:=iH n x hx;rintro rfl;simp[bX]at this
      unfold aW at hx
      repeat' split at hx
      all_goals simp only[List.mem_cons,List.mem_append,List.cons_append,List.not_mem_nil]at hx
      · rcases hx with h | h
        · omega
        · exact hd _ x h
      · rcases hx with h | h | h | h
        · omega
        · exact hd _ x h
        · omega
        · exact hd _ x h
      · rcases hx with h | h
        · omega
        · exact hd _ x h
  obtain⟨m,hm⟩:∃ m,(bN c.k++(aW c++r)).length+1=(m+1)+1:=by
    refine⟨(bN c.k++(aW c++r)).length-1,?_⟩;have:0<(bN c.k++(aW c++r)).length:=List.length_pos_iff.2 fun h=>sU (List.append_eq_nil_iff.1 h).1 hk;omega
  have hd:(bN c.k++aW c).length=(bN c.k).length+(aW c).length:=List.length_append;refine⟨m,skN ((bN c.k).length+(aW c).length) ⟨bN c.k++(aW c++r),1,1,0⟩,?_,?_,fT _ _,BA _ _ ?_⟩
  · unfold eS;rw[hm,mX hc hg rfl rfl h1 (nH h2)];rfl
  · rw[eH,← List.append_assoc,← hd,List.drop_left]
  · show ∀ x∈(bN c.k++(aW c++r)).take _,x≠10;rw[← List.append_assoc,← hd,List.take_left];exact no10
theorem iR{c:Cm}{r:List Int}(hc:bH c=true)(hg:cC c)(h1:∀ x,r.head?=some x->bX x=false)(h2:aW c≠[]∨∀ x,r.head?=some x->bO x=false)(hr:r.head?≠some 10):
    (eS (bN c.k++(aW c++r))).2.2.2=(if r=[] then 20 else 21)/\(eS (bN c.k++(aW c++r))).2.1=1:=by
  obtain⟨m,s,hm,hl,he,hp⟩:=sJ hc hg h1 h2;have hw:bE [10] s=(false,{ s with e:=if r=[] then 20 else 21 }):=by
    unfold bE;rw[if_neg (by simp[he]),hl];cases r with
    | nil=>simp[cM,he,hl]
    | cons x r =>
      have:x≠10:=fun e=>hr (by rw[e];rfl);simp[cM,he,hl,List.isPrefixOf,this,Ne.symm this]
  rw[hm,hw];unfold dO;rw[if_pos (by show(if r=[] then(20:Int) else 21)≠0;split <;>decide)];exact⟨rfl,hp⟩
theorem sK{r:List Int}:(eS (bN 4++120 ::r)).2.2.2=30/\(eS (bN 4++120 ::r)).2.1=1:=by
 unfold eS;have hk:bU ((bN 4++120 ::r).takeWhile bO)=0:=by
  have:∃ t,(bN 4++120 ::r).takeWhile bO=[99,111,117,110,116,120]++t:=⟨r.takeWhile bO,rfl⟩;obtain⟨t,ht⟩:=this;rw[ht];unfold bU;simp[bN]
 conv=>lhs;lhs;unfold dO
 conv=>rhs;lhs;unfold dO
 simp only[hk];rw[if_neg (by simp),if_neg (by simp[bN]),if_pos trivial];exact⟨rfl,rfl⟩
theorem AW{c:Cm}(hc:bH c=true)(hg:cC c):(eS (bN c.k++(aW c++[10,10]))).2.2.2=30/\(eS (bN c.k++(aW c++[10,10]))).2.1=2:=by
 obtain⟨m,s,hm,hl,he,hp⟩:=sJ (r:=[10,10]) hc hg (fun x hx=>by simp at hx;subst hx;rfl) (.inr fun x hx=>by simp at hx;subst hx;rfl);obtain⟨l,p,q,e⟩:=s;simp only at hl he hp;subst hl;subst he;subst hp;rw[hm];exact⟨rfl,rfl⟩
def eW:Nat->List Int->List Int
 | 0,x=>x
 | n+1,x=>99 ::111 ::117 ::110 ::116 ::10 ::eW n x
theorem wW:∀(n:Nat)(x:List Int)(m:Nat)(p:Int)(out:List Cm),dO (n+m) ⟨eW n x,p,1,0⟩ out=dO m ⟨x,p+n,1,0⟩ (out++List.replicate n ⟨4,0,0,0⟩)
 | 0,x,m,p,out=>by simp[eW]
 | n+1,x,m,p,out=>by
  have:=wW n x m (p+1) (out++[⟨4,0,0,0⟩]);rw[show n+1+m=(n+m)+1 by omega];have h1:dO (n+m+1) ⟨eW (n+1) x,p,1,0⟩ out=dO (n+m) ⟨eW n x,p+1,1,0⟩ (out++[⟨4,0,0,0⟩]):=by
   have:=mX (n:=n+m) (s:=⟨eW (n+1) x,p,1,0⟩) (out:=out) (c:=⟨4,0,0,0⟩) (r:=10 ::eW n x) rfl (by unfold cC;simp only;omega) rfl rfl (fun x hx=>by simp at hx;subst hx;rfl) (nH (.inr fun x hx=>by simp at hx;subst hx;rfl));rw[this];rfl
  rw[h1,this,List.append_assoc,List.replicate_succ];congr 2;omega
end Go.Proofs.YtdlomlmijdifbaaGreatDoor

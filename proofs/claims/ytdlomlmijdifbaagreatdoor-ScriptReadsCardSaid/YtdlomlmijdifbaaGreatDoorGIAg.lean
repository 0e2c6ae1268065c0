/- Own texts, packed: A1, A2, A3, I1, I2. -/
import Derived.Test.YtdlomlmijdifbaaGreatDoorGNg
import Derived.Test.YtdlomlmijdifbaaGreatDoorGGg
import Derived.Lib.Strings
import Derived.Lib.ItoaNum
set_option linter.unusedVariables false
set_option linter.unusedSimpArgs false
namespace Go.Proofs.YtdlomlmijdifbaaGreatDoor
open Go Go.V Go.RowKit
def eQ(n:Nat):List Int:=if n<10 then [48+(n:Int)] else eQ (n / 10)++[48+((n % 10:Nat):Int)]
termination_by n
decreasing_by omega
theorem fY{n:Nat}(h:n<10):eQ n=[48+(n:Int)]:=by rw[eQ,if_pos h]
theorem jV{n:Nat}(h:¬ n<10):eQ n=eQ (n / 10)++[48+((n % 10:Nat):Int)]:=by rw[eQ,if_neg h]
def bQ(x:Int):Bool:=decide (48<=x/\x<=57)
theorem Cj(n:Nat):∀ x∈eQ n,bQ x=true:=by
 induction n using Nat.strongRecOn with
 | _ n ih =>
  by_cases h:n<10
  ·rw[fY h];intro x hx;simp at hx;subst hx;unfold bQ;simp;omega
  ·rw[jV h];intro x hx;rcases List.mem_append.1 hx with hx | hx
   ·exact ih (n / 10) (by omega) x hx
   ·simp at hx;subst hx;unfold bQ;simp;omega
theorem Ci(k n:Nat):n<10^k->0<k->(eQ n).length<=k:=by
 induction k generalizing n with
 | zero=>intro _ h;omega
 | succ k ih =>
  intro h _;by_cases h9:n<10
  ·rw[fY h9];simp
  ·rw[jV h9,List.length_append];have hk:0<k:=by
    rcases Nat.eq_zero_or_pos k with hz | hz
    ·subst hz;simp at h;omega
    ·exact hz
   have:=ih (n / 10) (by rw[Nat.pow_succ]at h;omega) hk;simp;omega
theorem dG{n:Nat}(h:n<2^64):0<(eQ n).length/\(eQ n).length<=20:=by
 refine⟨?_,Ci 20 n (Nat.lt_of_lt_of_le h (by decide)) (by omega)⟩;unfold eQ;split <;>simp
def iO(v:Int)(l:List Int):Int:=l.foldl (fun v x=>v*10+(x-48)) v
theorem xD(v:Int)(l m:List Int):iO v (l++m)=iO (iO v l) m:=List.foldl_append
theorem kC{v:Int}(hv:0<=v):∀ {l:List Int},(∀ x∈l,bQ x=true)->v<=iO v l
 | [],_=>by simp[iO]
 | x ::l,h=>by
  have hx:=h x (by simp);unfold bQ at hx;simp only[decide_eq_true_eq]at hx;have:=kC (v:=v*10+(x-48)) (by omega) (l:=l) fun y hy=>h y (by simp[hy]);show v<=iO (v*10+(x-48)) l;omega
theorem Bw(n:Nat):aN (eQ n):=fun x hx=>by
 have:=Cj n x hx;unfold bQ at this;simp only[decide_eq_true_eq]at this;omega
structure Lif where
 u:Int
 v:Int
 f:Int
 t:Int
deriving DecidableEq
instance:Inhabited Lif:=⟨⟨0,0,0,0⟩⟩
theorem oB{a b:ByteArray}(h:a.data.toList=b.data.toList):a=b:=by
 cases a;cases b;simp at h;rw[h]
theorem aK(l:List Int):(aO l).size=l.length:=by
 have:=congrArg List.length (bJ l);simpa using this
theorem Ba(a b:List Int):aO a++aO b=aO (a++b):=by
 apply oB;rw[bJ,List.map_append,← bJ a,← bJ b];simp[ByteArray.append_eq]
theorem kA(l:List Int)(a b:Nat):(aO l).extract a b=aO ((l.take b).drop a):=by
 apply oB;rw[bJ,List.map_drop,List.map_take,← bJ l,ByteArray.data_extract,Array.toList_extract,List.extract_eq_take_drop,List.drop_take]
theorem nD{x:Int}(h:0<=x/\x<=255):((UInt8.ofNat x.toNat).toNat:Int)=x:=by
 rw[UInt8.toNat_ofNat'];omega
theorem cP{l:List Int}(hb:aN l){i:Nat}(h:i<l.length):bt (aO l) i=l[i]:=by
 unfold bt;rw[bJ,List.getD_eq_getElem?_getD,List.getElem?_map,List.getElem?_eq_getElem h];exact nD (hb _ (List.getElem_mem h))
theorem rQ(n:Nat):aO (eQ n)=⟨(Lib.decDigits n).toArray⟩:=by
 apply oB;rw[bJ];show _=Lib.decDigits n
 induction n using Nat.strongRecOn with
 | _ n ih =>
  by_cases h:n<10
  ·rw[fY h,Lib.decDigits,dif_pos h,List.map_cons,List.map_nil,show(48+(n:Int)).toNat=48+n by omega]
  ·rw[jV h,Lib.decDigits,dif_neg h,List.map_append,ih (n / 10) (by omega),List.map_cons,List.map_nil,show(48+((n % 10:Nat):Int)).toNat=48+n % 10 by omega]
theorem CK(p r:List Int):p.isPrefixOf (p++r)=true:=by
 rw[List.isPrefixOf_iff_prefix];exact List.prefix_append p r
structure Sn where
 l:List Int
 p:Int
 q:Int
 e:Int
def skN:Nat->Sn->Sn
 | 0,s=>s
 | n+1,s=>match s.l with
  | []=>s
  | x ::r=>skN n ⟨r,if x=10 then s.p+1 else s.p,if x=10 then 1 else s.q+1,s.e⟩
def cZ(e:Int)(s:Sn):Sn:=if s.e=0 then { s with e:=e } else s
def qR(m:Int):Int->List Int->Option Int
 | v,[]=>some v
 | v,x ::r=>if m<x-48∨(m-(x-48)) / 10<v then none else qR m (v*10+(x-48)) r
def cW(m:Int)(s:Sn):Int×Sn :=
 if s.e≠0 then(0,s) else if s.l=[] then(0,cZ 20 s) else
 if s.l.takeWhile bQ=[]∨1<(s.l.takeWhile bQ).length/\s.l.head?=some 48 then(0,cZ 21 s) else
 match qR m 0 (s.l.takeWhile bQ)with
 | none=>(0,cZ 22 s)
 | some v=>(v,skN (s.l.takeWhile bQ).length s)
def bF(w:List Int)(s:Sn):Bool×Sn :=
 if s.e≠0 then(false,s) else if w.isPrefixOf s.l=true then(true,skN w.length s) else(false,cZ (if s.l.isPrefixOf w=true then 20 else 21) s)
theorem gK:∀(n:Nat)(s:Sn),(skN n s).l=s.l.drop n
 | 0,s=>rfl
 | n+1,s=>by
  unfold skN;split
  ·rename_i h;rw[h];simp
  ·rename_i x r h;rw[gK,h];simp
theorem vH:∀(n:Nat)(s:Sn),(skN n s).e=s.e
 | 0,s=>rfl
 | n+1,s=>by
  unfold skN;split
  ·rfl
  ·rw[vH]
theorem tH:∀(n m:Nat)(s:Sn),skN m (skN n s)=skN (n+m) s
 | 0,m,s=>by rw[Nat.zero_add];rfl
 | n+1,m,s=>by
  rw[show n+1+m=(n+m)+1 by omega];obtain⟨l,p,q,e⟩:=s;cases l with
  | nil=>cases m <;>rfl
  | cons x r=>exact tH n m _
theorem lY(e:Int)(s:Sn):(cZ e s).l=s.l:=by unfold cZ;split <;>rfl
theorem jA{e:Int}{s:Sn}(he:e≠0):(cZ e s).e≠0:=by
 unfold cZ;split
 ·exact he
 ·assumption
theorem sO(f:Int->Bool):∀ l:List Int,l.drop (l.takeWhile f).length=l.dropWhile f
 | []=>rfl
 | x ::r=>by
  rw[List.takeWhile_cons,List.dropWhile_cons];split
  ·exact sO f r
  ·rfl
theorem fC(f:Int->Bool)(l:List Int):l=l.takeWhile f++l.drop (l.takeWhile f).length:=by
 rw[sO,List.takeWhile_append_dropWhile]
theorem gZ(w:List Int)(s:Sn):(bF w s).2.l.length<=s.l.length:=by
 unfold bF;split
 ·exact Nat.le_refl _
 ·split
  ·show(skN _ _).l.length<=_;rw[gK,List.length_drop];omega
  ·show(cZ _ _).l.length<=_;rw[lY];exact Nat.le_refl _
theorem lQ(m:Int)(s:Sn):(cW m s).2.l.length<=s.l.length:=by
 unfold cW;split
 ·exact Nat.le_refl _
 ·split
  ·show(cZ _ _).l.length<=_;rw[lY];exact Nat.le_refl _
  ·split
   ·show(cZ _ _).l.length<=_;rw[lY];exact Nat.le_refl _
   ·split
    ·show(cZ _ _).l.length<=_;rw[lY];exact Nat.le_refl _
    ·show(skN _ _).l.length<=_;rw[gK,List.length_drop];omega
theorem Bv:∀(k:Nat)(d:List Int),d.length=k->d≠[]->(∀ x∈d,bQ x=true)->(1<d.length->d.head?≠some 48)->eQ (iO 0 d).toNat=d:=by
 intro k
 induction k with
 | zero=>intro d hk hd;exact absurd (List.length_eq_zero_iff.1 hk) hd
 | succ k ih =>
  intro d hk hd ha hh;obtain⟨b,x,rfl⟩:∃ b x,d=b++[x]:=⟨d.dropLast,d.getLast hd,(List.dropLast_concat_getLast hd).symm⟩;have hx:=ha x (by simp);unfold bQ at hx;simp only[decide_eq_true_eq]at hx;have hb:∀ y∈b,bQ y=true:=fun y hy=>ha y (by simp[hy]);have e1:iO 0 (b++[x])=iO 0 b*10+(x-48):=by rw[xD];rfl
  cases b with
  | nil =>
   rw[e1];have:(iO 0 ([]:List Int)*10+(x-48)).toNat=(x-48).toNat:=by simp[iO]
   rw[this,fY (by omega)];simp;omega
  | cons y b =>
   have DO:(y ::b).length=k:=by simp at hk ⊢;omega
   have hy:y≠48:=fun e=>hh (by simp) (by rw[e];rfl);have i1:=ih (y ::b) DO (by simp) hb (fun _=>by simpa using hy);have EQ:=hb y (by simp);unfold bQ at EQ;simp only[decide_eq_true_eq]at EQ;have pos:0<iO 0 (y ::b):=by
    have:iO 0 (y ::b)=iO (0*10+(y-48)) b:=rfl;rw[this];have:=kC (v:=0*10+(y-48)) (by omega) (l:=b) fun z hz=>hb z (by simp[hz]);omega
   rw[e1,jV (by omega),show(iO 0 (y ::b)*10+(x-48)).toNat / 10=(iO 0 (y ::b)).toNat by omega,i1,show(((iO 0 (y ::b)*10+(x-48)).toNat % 10:Nat):Int)=x-48 by omega,show 48+(x-48)=x by omega]
theorem mS{m:Int}:∀ {d:List Int} {v u:Int},(∀ x∈d,bQ x=true)->0<=v->v<=m->qR m v d=some u->u=iO v d/\u<=m
 | [],v,u,_,h0,hm,h=>by unfold qR at h;cases h;exact⟨rfl,hm⟩
 | x ::r,v,u,hd,h0,hm,h=>by
  unfold qR at h;split at h
  ·cases h
  ·rename_i hc;have hx:=hd x (by simp);unfold bQ at hx;simp only[decide_eq_true_eq]at hx;have:=mS (fun y hy=>hd y (by simp[hy])) (by omega) (by omega) h;exact this
theorem oF{m:Int}{s:Sn}(hm:0<=m)(h:(cW m s).2.e=0):s.e=0/\∃ n:Nat,(cW m s).1=n/\(n:Int)<=m/\s.l=eQ n++(cW m s).2.l/\(cW m s).2=skN (eQ n).length s:=by
 unfold cW at h ⊢;split at h
 ·rename_i he;exact absurd h he
 ·rename_i he;rw[if_neg he];split at h
  ·exact absurd h (jA (by decide))
  ·rename_i hl;rw[if_neg hl];split at h
   ·exact absurd h (jA (by decide))
   ·rename_i hd;rw[if_neg hd];have D6:∀ x∈s.l.takeWhile bQ,bQ x=true:=fun x hx=>by
     have:=List.all_takeWhile (p:=bQ) (l:=s.l);exact List.all_eq_true.1 this x hx
    split at h
    ·exact absurd h (jA (by decide))
    ·rename_i v hv;obtain⟨h1,h2⟩:=mS D6 (by omega) hm hv;have h0:=kC (v:=0) (by omega) D6;have GY:eQ (iO 0 (s.l.takeWhile bQ)).toNat=s.l.takeWhile bQ:=by
      refine Bv _ _ rfl (fun e=>hd (.inl e)) D6 fun DO e=>hd (.inr ⟨DO,?_⟩);cases hq:s.l with
      | nil=>exact absurd hq hl
      | cons a t =>
       rw[hq,List.takeWhile_cons]at e;split at e
       ·exact e
       ·simp at e
     refine⟨Decidable.not_not.1 he,(iO 0 (s.l.takeWhile bQ)).toNat,by show v=_;omega,by omega,?_,by rw[GY]⟩;show _=_++(skN _ _).l;rw[GY,gK];exact fC bQ s.l
theorem uY{w r:List Int}{s:Sn}(he:s.e=0)(hl:s.l=w++r):bF w s=(true,skN w.length s):=by
 unfold bF;rw[if_neg (by simp[he]),hl,CK,if_pos rfl]
theorem jK{w:List Int}{s:Sn}(h:(bF w s).2.e=0):s.e=0/\s.l=w++(bF w s).2.l/\(bF w s).2=skN w.length s:=by
 unfold bF at h ⊢;split at h
 ·rename_i he;exact absurd h he
 ·rename_i he;rw[if_neg he];split at h
  ·rename_i hp;rw[if_pos hp];refine⟨Decidable.not_not.1 he,?_,rfl⟩;obtain⟨r,hr⟩:=List.isPrefixOf_iff_prefix.1 hp;show _=_++(skN _ _).l;rw[gK,← hr,List.drop_left]
  ·exact absurd h (jA (by split <;>decide))
structure Cm where
 k:Int
 t:Int
 u:Int
 v:Int
deriving DecidableEq
def eY(k:Int)(s:Sn):Cm×Sn :=
 if k=1 then(⟨k,(cW 9223372036854775807 (bF [32] s).2).1,0,0⟩,(cW 9223372036854775807 (bF [32] s).2).2)
 else if k=2∨k=5 then(⟨k,0,(cW 18446744073709551615 (bF [32] s).2).1,(cW 18446744073709551615 (bF [32] (cW 18446744073709551615 (bF [32] s).2).2).2).1⟩,(cW 18446744073709551615 (bF [32] (cW 18446744073709551615 (bF [32] s).2).2).2).2)
 else if k=3∨k=6 then(⟨k,0,(cW 18446744073709551615 (bF [32] s).2).1,0⟩,(cW 18446744073709551615 (bF [32] s).2).2)
 else(⟨k,0,0,0⟩,s)
def eI(k:Int)(s:Sn):Cm×Sn:=((eY k s).1,(bF [10] (eY k s).2).2)
def eJ(k:Int):List Int :=
 if k=1 then [115,101,101,107] else if k=2 then [99,111,110,110,101,99,116,101,100] else if k=3 then [115,105,122,101]
 else if k=4 then [99,111,117,110,116] else if k=5 then [104,97,115] else if k=6 then [100,101,103,114,101,101] else []
def bX(w:List Int):Int:=if w=eJ 1 then 1 else if w=eJ 2 then 2 else if w=eJ 3 then 3 else if w=eJ 4 then 4 else if w=eJ 5 then 5 else if w=eJ 6 then 6 else 0
def bE(x:Int):Bool:=decide (97<=x/\x<=122)
def jH:Nat->Sn->List Cm->List Cm×Int×Int×Int
 | 0,s,out=>(out,0,0,0)
 | n+1,s,out=>if s.e≠0 then([],s.p,s.q,s.e) else if s.l=[] then(out,0,0,0) else
  if bX (s.l.takeWhile bE)=0 then([],s.p,s.q,30) else
  jH n (eI (bX (s.l.takeWhile bE)) (skN (s.l.takeWhile bE).length s)).2 (out++[(eI (bX (s.l.takeWhile bE)) (skN (s.l.takeWhile bE).length s)).1])
def gD(l:List Int):List Cm×Int×Int×Int:=jH (l.length+1) ⟨l,1,1,0⟩ []
def cM(c:Cm):Bool :=
 if c.k=1 then decide (0<=c.t/\c.u=0/\c.v=0) else if c.k=2∨c.k=5 then decide (c.t=0) else if c.k=3∨c.k=6 then decide (c.t=0/\c.v=0)
 else if c.k=4 then decide (c.t=0/\c.u=0/\c.v=0) else false
def gG(c:Cm):List Int :=
 if c.k=1 then 32 ::eQ c.t.toNat else if c.k=2∨c.k=5 then 32 ::eQ c.u.toNat++32 ::eQ c.v.toNat else if c.k=3∨c.k=6 then 32 ::eQ c.u.toNat else []
def uB(c:Cm):List Int:=eJ c.k++gG c++[10]
def gC(l:List Cm):List Int:=(l.filter cM).flatMap uB
theorem Cw(k:Int)(s:Sn):(eY k s).2.l.length<=s.l.length:=by
 unfold eY;split
 ·exact Nat.le_trans (lQ _ _) (gZ _ _)
 ·split
  ·exact Nat.le_trans (lQ _ _) (Nat.le_trans (gZ _ _) (Nat.le_trans (lQ _ _) (gZ _ _)))
  ·split
   ·exact Nat.le_trans (lQ _ _) (gZ _ _)
   ·exact Nat.le_refl _
theorem sE(k:Int)(s:Sn):(eI k s).2.l.length<=s.l.length:=Nat.le_trans (gZ _ _) (Cw _ _)
theorem jQ{w:List Int}(h:bX w≠0):w=eJ (bX w)/\(bX w=1∨bX w=2∨bX w=3∨bX w=4∨bX w=5∨bX w=6):=by
 unfold bX at h ⊢
 repeat' split
 all_goals first | (refine⟨by assumption,?_⟩;decide) | (exfalso;simp_all)
theorem CV{k:Int}(h:k=1∨k=2∨k=3∨k=4∨k=5∨k=6):bX (eJ k)=k:=by
 rcases h with rfl | rfl | rfl | rfl | rfl | rfl <;>decide
theorem Dy{k:Int}:∀ x∈eJ k,bE x=true:=by
 unfold eJ
 repeat' split
 all_goals decide
theorem AJ{k:Int}(h:eJ k=[]):¬ (k=1∨k=2∨k=3∨k=4∨k=5∨k=6):=by
 rintro(rfl | rfl | rfl | rfl | rfl | rfl) <;>simp[eJ]at h
def cY(c:Cm):Prop:=(-9223372036854775808<=c.k/\c.k<=9223372036854775807)/\(-9223372036854775808<=c.t/\c.t<=9223372036854775807)/\(0<=c.u/\c.u<=18446744073709551615)/\0<=c.v/\c.v<=18446744073709551615
abbrev iI(k:Int):Prop:=k=1∨k=2∨k=3∨k=4∨k=5∨k=6
theorem pD{c:Cm}(h:cM c=true):iI c.k:=by
 unfold cM at h
 repeat' split at h
 all_goals first | omega | cases h
theorem C7{k:Int}{s:Sn}(hk:iI k)(h:(eY k s).2.e=0):s.e=0/\(eY k s).1.k=k/\cM (eY k s).1=true/\cY (eY k s).1/\s.l=gG (eY k s).1++(eY k s).2.l:=by
 unfold eY at h ⊢;by_cases h1:k=1
 ·subst h1;simp only[if_true]at h ⊢;obtain⟨a1,n,a2,a3,a4,_⟩:=oF (by decide) h;obtain⟨b1,b2,_⟩:=jK a1;refine⟨b1,by trivial,?_,?_,?_⟩
  ·unfold cM;simp only[if_true,decide_eq_true_eq];exact⟨by omega,trivial,trivial⟩
  ·unfold cY;simp only;omega
  ·unfold gG;simp only[if_true];rw[b2,a4,a2];simp
 ·rw[if_neg h1]at h ⊢;by_cases h2:k=2∨k=5
  ·rw[if_pos h2]at h ⊢;obtain⟨c1,n',c2,c3,c4,_⟩:=oF (by decide) h;obtain⟨d1,d2,_⟩:=jK c1;obtain⟨a1,n,a2,a3,a4,_⟩:=oF (by decide) d1;obtain⟨b1,b2,_⟩:=jK a1;refine⟨b1,rfl,?_,?_,?_⟩
   ·unfold cM;simp only[if_neg h1,if_pos h2,decide_eq_true_eq]
   ·unfold cY;simp only;omega
   ·unfold gG;simp only[if_neg h1,if_pos h2];rw[b2,a4,d2,c4,a2,c2];simp
  ·rw[if_neg h2]at h ⊢;by_cases h3:k=3∨k=6
   ·rw[if_pos h3]at h ⊢;obtain⟨a1,n,a2,a3,a4,_⟩:=oF (by decide) h;obtain⟨b1,b2,_⟩:=jK a1;refine⟨b1,rfl,?_,?_,?_⟩
    ·unfold cM;simp only[if_neg h1,if_neg h2,if_pos h3,decide_eq_true_eq];exact⟨trivial,trivial⟩
    ·unfold cY;simp only;omega
    ·unfold gG;simp only[if_neg h1,if_neg h2,if_pos h3];rw[b2,a4,a2];simp
   ·rw[if_neg h3]at h ⊢;have h4:k=4:=by unfold iI at hk;omega
    subst h4;refine⟨h,rfl,rfl,?_,?_⟩
    ·unfold cY;simp only;omega
    ·rfl
theorem B6{k:Int}{s:Sn}(hk:iI k)(h:(eI k s).2.e=0):s.e=0/\(eI k s).1.k=k/\cM (eI k s).1=true/\cY (eI k s).1/\s.l=gG (eI k s).1++10 ::(eI k s).2.l:=by
 obtain⟨a1,a2,_⟩:=jK (w:=[10]) h;obtain⟨b1,b2,b3,b4,b5⟩:=C7 hk a1;refine⟨b1,b2,b3,b4,?_⟩;show s.l=gG (eY k s).1++10 ::(bF [10] (eY k s).2).2.l;rw[b5,a2];rfl
theorem BV:∀(n:Nat)(s:Sn)(out:List Cm),s.l.length<n->(jH n s out).2.2.2=0->s.e=0/\∃ b:List Cm,jH n s out=(out++b,0,0,0)/\(∀ c∈b,cM c=true/\cY c)/\s.l=b.flatMap uB
 | 0,s,out,hn,h=>by omega
 | n+1,s,out,hn,h=>by
  unfold jH at h ⊢;split at h
  ·rename_i he;exact absurd h he
  ·rename_i he;rw[if_neg he];refine⟨Decidable.not_not.1 he,?_⟩;split at h
   ·rename_i hl;rw[if_pos hl];exact⟨[],by simp,by simp,by rw[hl];rfl⟩
   ·rename_i hl;rw[if_neg hl];split at h
    ·exact absurd (show(30:Int)=0 from h) (by decide)
    ·rename_i hk;rw[if_neg hk];obtain⟨k1,k2⟩:=jQ hk;have kl:0<(s.l.takeWhile bE).length:=by
      rcases Nat.eq_zero_or_pos (s.l.takeWhile bE).length with hz | hz
      ·rw[List.length_eq_zero_iff]at hz;rw[hz]at k1;exact absurd k2 (AJ (by rw[hz];exact k1.symm))
      ·exact hz
     have ll:=sE (bX (s.l.takeWhile bE)) (skN (s.l.takeWhile bE).length s);rw[gK,List.length_drop]at ll;have lp:=List.length_pos_iff.2 hl;obtain⟨e1,b,b1,b2,b3⟩:=BV n _ _ (by omega) h;obtain⟨c1,c2,c3,c4,c5⟩:=B6 k2 e1;refine⟨_ ::b,by rw[b1];simp;rfl,?_,?_⟩
     ·intro c hc;rcases List.mem_cons.1 hc with rfl | hc
      ·exact⟨c3,c4⟩
      ·exact b2 c hc
     ·rw[List.flatMap_cons,← b3];unfold uB;rw[c2,← k1];have:s.l=s.l.takeWhile bE++(skN (s.l.takeWhile bE).length s).l:=by
       rw[gK];exact fC bE s.l
      conv=>lhs;rw[this,c5]
      simp
theorem CL{l:List Int}(h:(gD l).2.2.2=0):gC (gD l).1=l/\(∀ c∈(gD l).1,cM c=true/\cY c)/\gD l=((gD l).1,0,0,0):=by
 obtain⟨_,b,h1,h2,h3⟩:=BV _ _ _ (Nat.lt_succ_self _) h;have h1:gD l=(b,0,0,0):=h1;rw[h1];refine⟨?_,h2,rfl⟩;show gC b=l;unfold gC;rw[List.filter_eq_self.2 fun c hc=>(h2 c hc).1];exact h3.symm
end Go.Proofs.YtdlomlmijdifbaaGreatDoor

/- Own texts, packed: O1, O2, O3. -/
import Derived.Test.YtlieaecnllkefaaGreatGNg
import Derived.Test.YtlieaecnllkefaaGreatGIg
set_option linter.unusedVariables false
set_option linter.unusedSimpArgs false
namespace Go.Proofs.YtlieaecnllkefaaGreat
open Go Go.V Go.RowKit
def iz(u:Int)(l:List Edge):Nat:=(l.takeWhile fun x=>decide (x.1=u)).length
def dL(u v:Int):List Edge->List Nat
  | []=>[]
  | e ::r=>if e.1=u then(e.2-v-1).toNat ::dL u e.2 r
      else(e.1-u-1).toNat ::(1+iz e.1 r) ::(e.2-e.1-1).toNat ::dL e.1 e.2 r
def eR(u:Int):List Edge->Nat
 | []=>0
 | e ::r=>if e.1=u then eR u r else 1+eR e.1 r
def vI(l:List Edge):List Nat:=eR (-1) l ::dL (-1) 0 l
def js(l:List Edge):List Int:=bC (vI l)
def nC(l:List Edge):Bool:=fi l && l.all fun e=>decide (e.1<e.2)
def fJ(l:List Edge):Prop:=∀ e∈l,(0<=e.1/\e.1<=4294967295)/\0<=e.2/\e.2<=4294967295
structure nG(l:List Edge):Prop where
 rise:fZ l
 right:∀ e∈l,0<=e.1/\e.1<e.2/\e.2<=4294967295
 len:l.length<=2^30
theorem qs{l:List Edge}(hb:fJ l)(hl:l.length<=2^30):nC l=true↔nG l:=by
 unfold nC;rw[Bool.and_eq_true,gU,List.all_eq_true];constructor
 ·rintro⟨h1,h2⟩;refine⟨h1,fun e he=>?_,hl⟩;have:=h2 e he;simp only[decide_eq_true_eq]at this;have:=hb e he;omega
 ·rintro⟨h1,h2,_⟩;exact⟨h1,fun e he=>by have:=h2 e he;simp;omega⟩
theorem nG.edgesB{l:List Edge}(h:nG l):fJ l:=fun e he=>by have:=h.right e he;omega
theorem dH(a:Nat)(l:List Nat):bC (a ::l)=cF a++bC l:=by simp[bC]
theorem nO:bC []=[]:=rfl
theorem iD(a b:List Nat):bC (a++b)=bC a++bC b:=by simp[bC]
theorem yr(l:List Nat):aW (bC l):=by
 intro y hy;simp only[bC,List.mem_flatMap]at hy;obtain⟨a,_,h⟩:=hy;exact gu a y h
theorem Dc(l:List Nat):l.length<=(bC l).length:=by
 induction l with
 | nil=>simp
 | cons a l ih=>rw[dH,List.length_append,List.length_cons];have:=kT a;omega
theorem Cl{a b:List Nat}(ha:∀ x∈a,x<2^64)(hb:∀ x∈b,x<2^64)(h:bC a=bC b):a=b:=by
 induction a generalizing b with
 | nil =>
  cases b with
  | nil=>rfl
  | cons y b =>
   rw[nO,dH]at h;have:=congrArg List.length h;have hp:=kT y;rw[List.length_append,List.length_nil]at this;omega
 | cons x a ih =>
  cases b with
  | nil =>
   rw[nO,dH]at h;have:=congrArg List.length h;have hp:=kT x;rw[List.length_append,List.length_nil]at this;omega
  | cons y b =>
   rw[dH,dH]at h;obtain⟨e1,e2⟩:=jZ (ha x (by simp)) (hb y (by simp)) h;rw[e1,ih (fun z hz=>ha z (by simp[hz])) (fun z hz=>hb z (by simp[hz])) e2]
theorem fm(u:Int)(e:Edge)(l:List Edge):iz u (e ::l)=if e.1=u then 1+iz u l else 0:=by
 unfold iz;rw[List.takeWhile_cons];by_cases h:e.1=u
 ·simp[h];omega
 ·simp[h]
theorem wP(u:Int)(l:List Edge):iz u l<=l.length:=by
 unfold iz;exact(List.takeWhile_sublist _).length_le
theorem vU{u:Int}{l:List Edge}(h:∀ e,l.head?=some e->e.1≠u):iz u l=0:=by
 cases l with
 | nil=>rfl
 | cons e l=>rw[fm,if_neg (h e rfl)]
theorem BF(u:Int)(l:List Edge):eR u l<=l.length:=by
 induction l generalizing u with
 | nil=>simp[eR]
 | cons e l ih =>
  rw[eR];have h1:=ih u;have h2:=ih e.1;split <;>simp <;>omega
theorem lE(u v:Int)(e:Edge)(r:List Edge)(h:e.1=u):dL u v (e ::r)=(e.2-v-1).toNat ::dL u e.2 r:=by rw[dL,if_pos h]
theorem rj(u v:Int)(e:Edge)(r:List Edge)(h:e.1≠u):dL u v (e ::r)=(e.1-u-1).toNat ::iz e.1 (e ::r) ::dL e.1 e.1 (e ::r):=by
 rw[dL,if_neg h,fm,if_pos rfl,lE _ _ _ _ rfl]
theorem zx(u v:Int)(l:List Edge):(dL u v l).length<=3*l.length:=by
 induction l generalizing u v with
 | nil=>simp[dL]
 | cons e l ih =>
  rw[dL];split
  ·have:=ih u e.2;simp;omega
  ·have:=ih e.1 e.2;simp;omega
theorem xO(u v:Int)(l:List Edge)(hu:-1<=u)(hv:0<=v)(h:fJ l)(hl:l.length<=2^30):∀ x∈dL u v l,x<2^32:=by
 induction l generalizing u v with
 | nil=>simp[dL]
 | cons e l ih =>
  have he:=h e (by simp);have hr:fJ l:=fun a ha=>h a (by simp[ha]);simp only[List.length_cons]at hl;intro x hx;rw[dL]at hx;split at hx
  ·rcases List.mem_cons.1 hx with rfl | hx
   ·omega
   ·exact ih u e.2 hu (by omega) hr (by omega) x hx
  ·rcases List.mem_cons.1 hx with rfl | hx
   ·omega
   rcases List.mem_cons.1 hx with rfl | hx
   ·have:=wP e.1 l;omega
   rcases List.mem_cons.1 hx with rfl | hx
   ·omega
   exact ih e.1 e.2 (by omega) (by omega) hr (by omega) x hx
theorem tu{l:List Edge}(h:fJ l)(hl:l.length<=2^30):∀ x∈vI l,x<2^32:=by
 intro x hx;rcases List.mem_cons.1 hx with rfl | hx
 ·have:=BF (-1) l;omega
 ·exact xO _ _ l (by omega) (by omega) h hl x hx
theorem nD{l:List Edge}(h:fJ l)(hl:l.length<=2^30):(js l).length<=30*l.length+10:=by
 have h1:=fN (l:=vI l) fun x hx=>by have:=tu h hl x hx;omega
 have h2:=zx (-1) 0 l;unfold js;simp only[vI,List.length_cons]at *;omega
theorem dX(l:List Edge):aW (js l):=yr _
theorem zy:∀ {l m:List Edge} {u v:Int},-1<=u->fZ l->fZ m->(∀ e∈l,0<=e.1/\e.1<e.2)->(∀ e∈m,0<=e.1/\e.1<e.2)->(∀ e∈l,u<e.1∨e.1=u/\v<e.2)->(∀ e∈m,u<e.1∨e.1=u/\v<e.2)->iz u l=iz u m->dL u v l=dL u v m->l=m
 | [],[],u,v,_,_,_,_,_,_,_,_,_=>rfl
 | [],e ::m,u,v,_,_,_,_,_,_,_,_,h=>by rw[dL,dL]at h;split at h <;>simp at h
 | e ::l,[],u,v,_,_,_,_,_,_,_,_,h=>by rw[dL,dL]at h;split at h <;>simp at h
 | e ::l,e' ::m,u,v,hu,hl,hm,rl,rm,bl,bm,hr,h=>by
  rw[fm,fm]at hr;rw[dL,dL]at h;have r1:=rl e (by simp);have r2:=rm e' (by simp);have b1:=bl e (by simp);have b2:=bm e' (by simp);have pl:=List.pairwise_cons.1 hl;have pm:=List.pairwise_cons.1 hm;have key:e=e'->iz e.1 l=iz e.1 m->dL e.1 e.2 l=dL e.1 e.2 m->e ::l=e' ::m:=by
   rintro rfl h1 h2;rw[zy (by omega) pl.2 pm.2 (fun a ha=>rl a (by simp[ha])) (fun a ha=>rm a (by simp[ha])) (fun a ha=>by have:=dI.1 (pl.1 a ha);omega) (fun a ha=>by have:=dI.1 (pm.1 a ha);omega) h1 h2]
  by_cases c1:e.1=u
  ·by_cases c2:e'.1=u
   ·rw[if_pos c1,if_pos c2]at h hr;simp only[List.cons.injEq]at h;have he:e=e':=Prod.ext (by omega) (by omega);refine key he (by rw[c1];omega) ?_;rw[c1];have:e.2=e'.2:=by omega
    rw[this]at h ⊢;exact h.2
   ·rw[if_pos c1,if_neg c2]at hr;omega
  ·by_cases c2:e'.1=u
   ·rw[if_neg c1,if_pos c2]at hr;omega
   ·rw[if_neg c1,if_neg c2]at h;simp only[List.cons.injEq]at h;obtain⟨h1,h2,h3,h4⟩:=h;have Lz:e.1=e'.1:=by omega
    have SX:e.2=e'.2:=by omega
    refine key (Prod.ext Lz SX) ?_ ?_
    ·rw[← Lz]at h2;omega
    ·rw[← Lz,← SX]at h4;exact h4
theorem zA{l m:List Edge}(hl:nG l)(hm:nG m)(h:js l=js m):l=m:=by
 have h1:=Cl (fun x hx=>by have:=tu hl.edgesB hl.len x hx;omega) (fun x hx=>by have:=tu hm.edgesB hm.len x hx;omega) h;simp only[vI,List.cons.injEq]at h1;have z:∀ {l:List Edge},nG l->iz (-1) l=0:=fun {l} h=>vU fun e he=>by
  have:=h.right e (List.mem_of_head? he);omega
 exact zy (u:=-1) (v:=0) (by omega) hl.rise hm.rise (fun e he=>by have:=hl.right e he;omega) (fun e he=>by have:=hm.right e he;omega)
  (fun e he=>by have:=hl.right e he;omega) (fun e he=>by have:=hm.right e he;omega) (by rw[z hl,z hm]) h1.2
theorem E6(u v:Int)(l:List Edge):l.length<=(dL u v l).length:=by
 induction l generalizing u v with
 | nil=>simp
 | cons e l ih =>
  rw[dL];split
  ·have:=ih u e.2;simp;omega
  ·have:=ih e.1 e.2;simp;omega
theorem E7(l:List Edge):l.length<=(js l).length:=by
 have h1:=Dc (vI l);have h2:=E6 (-1) 0 l;unfold js;simp only[vI,List.length_cons]at *;omega
def blen(v:Nat):Nat:=if v=0 then 0 else 1+blen (v / 2)
termination_by v
decreasing_by omega
theorem vc{v:Nat}(h:0<v):blen v=1+blen (v / 2):=by rw[blen,if_neg (by omega)]
theorem lD:blen 0=0:=by rw[blen,if_pos rfl]
theorem gn(v:Nat):v<2^blen v/\(0<v->2^(blen v-1)<=v/\0<blen v):=by
 induction v using Nat.strongRecOn with
 | _ v ih =>
  by_cases h:v=0
  ·subst h;rw[lD];simp
  ·rw[vc (by omega)];obtain⟨h1,h2⟩:=ih (v / 2) (by omega);refine⟨by rw[Nat.add_comm,Nat.pow_succ];omega,fun _=>⟨?_,by omega⟩⟩;rw[Nat.add_sub_cancel_left];by_cases h0:0<v / 2
   ·obtain⟨k1,k2⟩:=h2 h0;obtain⟨q,hq⟩:∃ q,blen (v / 2)=q+1:=⟨blen (v / 2)-1,by omega⟩;rw[hq,Nat.add_sub_cancel]at k1;rw[hq,Nat.pow_succ];omega
   ·have:v / 2=0:=by omega
    rw[this,lD];omega
theorem kA{v k:Nat}(h:v<2^k):blen v<=k:=by
 by_cases h0:0<v
 ·obtain⟨h1,h2⟩:=(gn v).2 h0;have:blen v-1<k:=(Nat.pow_lt_pow_iff_right (a:=2) (by omega)).1 (by omega);omega
 ·have:v=0:=by omega
  rw[this,lD];omega
def dT(v:Nat):List Bool:=List.replicate (blen v-1) false++cK (v:Int) (blen v)
theorem jq{v:Nat}(h:0<v):(dT v).length=2*(blen v-1)+1:=by
 have:=((gn v).2 h).2;unfold dT;rw[List.length_append,List.length_replicate,ef];omega
theorem tG{v:Int}(h:0<=v):∀(n:Nat)(a:Int),(cK v n).foldl (fun v b=>2*v+fy b) a=a*2^n+v % 2^n
 | 0,a=>by simp[cK]
 | n+1,a=>by
  rw[cK,List.foldl_cons,tG h n];have hp:(0:Int)<2^n:=Int.pow_pos (by omega);have e:v % 2^(n+1)=v % 2^n+2^n*fy (eZ v n):=by
   have h1:(2:Int)^(n+1)=2^n*2:=by rw[Int.pow_succ]
   have hq:=Int.emod_add_mul_ediv (v / 2^n) 2;have hv:=Int.emod_add_mul_ediv v (2^n);have HN:=Int.emod_nonneg v (show(2:Int)^n≠0 by omega);have I8:=Int.emod_lt_of_pos v hp;have hb:fy (eZ v n)=v / 2^n % 2:=by
    unfold fy eZ;have h2:=Int.emod_nonneg (v / 2^n) (show(2:Int)≠0 by omega);have h3:=Int.emod_lt_of_pos (v / 2^n) (show(0:Int)<2 by omega);by_cases h4:v / 2^n % 2=1
    ·simp[h4]
    ·have h5:v / 2^n % 2=0:=by omega
     simp[h5]
   have Gf:=fS (eZ v n);have hs:v=(v % 2^n+2^n*fy (eZ v n))+2^n*2*(v / 2^n / 2):=by
    rw[hb,Int.mul_assoc,Int.add_assoc,← Int.mul_add,hq,hv]
   rw[h1]
   conv=>lhs;rw[hs]
   rw[Int.add_mul_emod_self_left];refine Int.emod_eq_of_lt ?_ ?_
   ·have:0<=2^n*fy (eZ v n):=Int.mul_nonneg (Int.le_of_lt hp) Gf.1;omega
   ·have:2^n*fy (eZ v n)<=2^n*1:=Int.mul_le_mul_of_nonneg_left Gf.2 (Int.le_of_lt hp);omega
  rw[e];have h6:(2*a+fy (eZ v n))*2^n=a*2^(n+1)+2^n*fy (eZ v n):=by
   rw[Int.add_mul,Int.pow_succ,Int.mul_comm (fy (eZ v n)),Int.mul_comm 2 a,Int.mul_assoc a 2,Int.mul_comm 2 (2^n)]
  rw[h6];omega
theorem DS{v:Nat}(h:0<v):eZ (v:Int) (blen v-1)=true:=by
 obtain⟨h1,h2⟩:=(gn v).2 h;have h3:=(gn v).1;obtain⟨q,hq⟩:∃ q,blen v=q+1:=⟨blen v-1,by omega⟩;rw[hq]at h1 h3 ⊢;rw[Nat.add_sub_cancel]at h1 ⊢;rw[Nat.pow_succ]at h3;have:v / 2^q=1:=by
  apply Nat.div_eq_of_lt_le <;>omega
 unfold eZ;rw[show(2:Int)^q=((2^q:Nat):Int) by simp,show((v:Int) / ((2^q:Nat):Int))=((v / 2^q:Nat):Int) by simp,this];rfl
theorem zr{v:Nat}(h:0<v):cK (v:Int) (blen v)=true ::cK (v:Int) (blen v-1):=by
 obtain⟨q,hq⟩:∃ q,blen v=q+1:=⟨blen v-1,by have:=((gn v).2 h).2;omega⟩;have:=DS h;rw[hq,Nat.add_sub_cancel]at *;rw[cK,this]
def rq(bs:List Bool):Nat:=(bs.takeWhile fun b=>!b).length
theorem Ed(k:Nat)(r:List Bool):rq (List.replicate k false++true ::r)=k:=by
 induction k with
 | zero=>simp[rq]
 | succ k ih =>
  unfold rq at ih ⊢;rw[List.replicate_succ,List.cons_append,List.takeWhile_cons];simp[ih]
theorem Fp{bs:List Bool}{z:Nat}(h:∀ i,i<z->bs[i]?=some false)(h1:bs[z]?≠some false):rq bs=z:=by
 induction z generalizing bs with
 | zero =>
  cases bs with
  | nil=>rfl
  | cons b bs=>cases b <;>simp_all [rq]
 | succ z ih =>
  cases bs with
  | nil=>have:=h 0 (by omega);simp at this
  | cons b bs =>
   have h0:=h 0 (by omega);simp at h0;subst h0;have:=ih (bs:=bs) (fun i hi=>by simpa using h (i+1) (by omega)) (by simpa using h1);unfold rq at this ⊢;rw[List.takeWhile_cons];simp[this]
def qU(bs:List Bool):Option (Int×Nat) :=
 if rq bs<64/\2*rq bs+1<=bs.length then some (2^rq bs+ki ((bs.drop (rq bs+1)).take (rq bs)),2*rq bs+1) else none
theorem BG{v:Nat}(h:0<v)(rest:List Bool):dT v++rest=List.replicate (blen v-1) false++true ::(cK (v:Int) (blen v-1)++rest):=by
 unfold dT;rw[zr h,List.append_assoc,List.cons_append]
theorem uO{v:Nat}(h:0<v)(P2:v<2^64)(rest:List Bool):qU (dT v++rest)=some ((v:Int),(dT v).length):=by
 have hz:rq (dT v++rest)=blen v-1:=by rw[BG h,Ed]
 have hl:=jq h;have hb:=kA P2;obtain⟨h1,h2⟩:=(gn v).2 h;have h3:=(gn v).1;unfold qU;rw[hz,if_pos ⟨by omega,by rw[List.length_append,hl];omega⟩,hl];have hd:((dT v++rest).drop (blen v-1+1)).take (blen v-1)=cK (v:Int) (blen v-1):=by
  rw[BG h,← List.drop_drop,List.drop_left' (by simp),List.drop_succ_cons,List.drop_zero,List.take_left' (ef _ _)]
 rw[hd];unfold ki;rw[tG (by omega)];obtain⟨q,hq⟩:∃ q,blen v=q+1:=⟨blen v-1,by omega⟩;rw[hq]at h1 h3 ⊢;rw[Nat.add_sub_cancel]at h1 ⊢;rw[Nat.pow_succ]at h3;have e:(v:Int) % 2^q=(v:Int)-2^q:=by
  have e1:((2^q:Nat):Int)=2^q:=by simp
  rw[← e1,show(v:Int)=((v-2^q:Nat):Int)+((2^q:Nat):Int) by omega,Int.add_emod_right,Int.emod_eq_of_lt (by omega) (by omega)];omega
 rw[e];congr 2;omega
theorem uP{u v:Nat}{s t:List Bool}(hu:0<u/\u<2^64)(hv:0<v/\v<2^64)(h:dT u++s=dT v++t):u=v/\s=t:=by
 have h1:=uO hu.1 hu.2 s;have h2:=uO hv.1 hv.2 t;rw[h,h2]at h1;simp only[Option.some.injEq,Prod.mk.injEq]at h1;have e:u=v:=by omega
 subst e;exact⟨rfl,List.append_cancel_left h⟩
theorem EP{bs:List Bool}{v:Int}{n:Nat}(h:qU bs=some (v,n)):1<=v/\v<2^64/\0<n/\n<=bs.length/\n<=127:=by
 unfold qU at h;split at h
 ·rename_i hz;simp only[Option.some.injEq,Prod.mk.injEq]at h;obtain⟨h1,h2⟩:=h;have hv:=tF ((bs.drop (rq bs+1)).take (rq bs));have hl:((bs.drop (rq bs+1)).take (rq bs)).length=rq bs:=by rw[List.length_take,List.length_drop];omega
  rw[hl]at hv;have hp:(0:Int)<2^rq bs:=Int.pow_pos (by omega);have hq:((2:Int))^rq bs<=2^63:=by
   have:=Nat.pow_le_pow_right (n:=2) (by omega) (show rq bs<=63 by omega);have e1:((2^rq bs:Nat):Int)=2^rq bs:=by simp
   omega
  omega
 ·cases h
def ii(t0:Int)(p:Option aS)(e:aS):Nat:=(e.t-(match p with | some q=>q.t | none=>t0)).toNat+1
def jB(p:Option aS)(e:aS):Nat:=match p with
 | some q=>if e.t=q.t then(e.u-q.u).toNat+1 else e.u.toNat+1
 | none=>e.u.toNat+1
def jr(p:Option aS)(e:aS):Nat:=match p with
 | some q=>if e.t=q.t/\e.u=q.u then(e.v-q.v).toNat else(e.v-e.u).toNat
 | none=>(e.v-e.u).toNat
def xF(t0:Int)(p:Option aS)(e:aS):List Bool:=dT (ii t0 p e)++(e.add ::(dT (jB p e)++dT (jr p e)))
def dS(t0:Int):Option aS->List aS->List Bool
 | _,[]=>[]
 | p,e ::l=>xF t0 p e++dS t0 (some e) l
def eL(t0:Int)(l:List aS):List Int:=dN (dS t0 none l)
def nE(l:List aS):Prop:=∀ e∈l,((0<=e.u/\e.u<=4294967295)/\0<=e.v/\e.v<=4294967295)/\-9223372036854775808<=e.t/\e.t<=9223372036854775807
def Bh(t0:Int)(p:Option aS)(e:aS):Prop:=(0<=e.t/\e.t<=4611686018427387903)/\(0<=e.u/\e.u<e.v/\e.v<=4294967295)/\(match p with | none=>e.t=t0 | some q=>bN q e=true)
def dZ(t0:Int):Option aS->List aS->Prop
 | _,[]=>True
 | p,e ::l=>Bh t0 p e/\dZ t0 (some e) l
def kG(t0:Int):Option aS->List aS->Bool
 | _,[]=>true
 | p,e ::l=>(decide (0<=e.t/\e.t<=4611686018427387903/\e.u<e.v) && (match p with | none=>decide (e.t=t0) | some q=>bN q e)) && kG t0 (some e) l
theorem ly{t0:Int}:∀ {l:List aS} {p:Option aS},nE l->(kG t0 p l=true↔dZ t0 p l)
 | [],p,_=>by simp[kG,dZ]
 | e ::l,p,h=>by
  have he:=h e (by simp);have ih:=ly (t0:=t0) (l:=l) (p:=some e) fun a ha=>h a (by simp[ha]);unfold kG dZ;rw[Bool.and_eq_true,ih,Bool.and_eq_true,decide_eq_true_eq];unfold Bh;constructor
  ·rintro⟨⟨h1,h2⟩,h3⟩;refine⟨⟨by omega,by omega,?_⟩,h3⟩;cases p with
   | none=>simpa using h2
   | some q=>exact h2
  ·rintro⟨⟨h1,h2,h4⟩,h3⟩;refine⟨⟨by omega,?_⟩,h3⟩;cases p with
   | none=>simpa using h4
   | some q=>exact h4
theorem Bh.nums{t0:Int}{p:Option aS}{e:aS}(h:Bh t0 p e)(hp:∀ q,p=some q->0<=q.t/\0<=q.u/\0<=q.v):ii t0 p e<=2^62/\(0<jB p e/\jB p e<=2^32)/\0<jr p e/\jr p e<=2^32:=by
 obtain⟨h1,h2,h3⟩:=h;cases p with
 | none =>
  simp only at h3;unfold ii jB jr;simp only;omega
 | some q =>
  have hq:=hp q rfl;simp only[eg]at h3;unfold ii jB jr;simp only;refine⟨by omega,by split <;>omega,?_⟩;split <;>omega
theorem Bh.inj{t0:Int}{p:Option aS}{e e':aS}(h:Bh t0 p e)(h':Bh t0 p e')(h1:ii t0 p e=ii t0 p e')(h2:jB p e=jB p e')(h3:jr p e=jr p e')(h4:e.add=e'.add):e=e':=by
 obtain⟨a1,a2,a3⟩:=h;obtain⟨b1,b2,b3⟩:=h';obtain⟨t,u,v,ad⟩:=e;obtain⟨t',u',v',ad'⟩:=e';simp only at *;subst h4;cases p with
 | none =>
  simp only[ii,jB,jr]at *;have:t=t':=by omega
  have:u=u':=by omega
  have:v=v':=by omega
  simp[*]
 | some q =>
  simp only[ii,jB,jr,eg]at *;have e1:t=t':=by omega
  subst e1;by_cases c:t=q.t
  ·simp only[c,if_true,true_and]at *;have e2:u=u':=by omega
   subst e2;have e3:v=v':=by split at h3 <;>omega
   simp[*]
  ·simp only[c,if_false,false_and]at *;have e2:u=u':=by omega
   subst e2;have e3:v=v':=by omega
   simp[*]
def jy(p:Option aS):Prop:=∀ q,p=some q->0<=q.t/\0<=q.u/\0<=q.v
theorem Bh.prev{t0:Int}{p:Option aS}{e:aS}(h:Bh t0 p e):jy (some e):=by
 intro q hq;cases hq;have:=h.1;have:=h.2.1;omega
theorem BK{t0:Int}{p:Option aS}{e e':aS}{s s':List Bool}(hp:jy p)(h:Bh t0 p e)(h':Bh t0 p e')(he:xF t0 p e++s=xF t0 p e'++s'):e=e'/\s=s':=by
 have n1:=h.nums hp;have n2:=h'.nums hp;unfold xF at he;simp only[List.append_assoc,List.cons_append]at he;obtain⟨g1,g2⟩:=uP ⟨by unfold ii;omega,by omega⟩ ⟨by unfold ii;omega,by omega⟩ he;simp only[List.cons.injEq]at g2;obtain⟨g3,g4⟩:=g2;obtain⟨g5,g6⟩:=uP ⟨n1.2.1.1,by omega⟩ ⟨n2.2.1.1,by omega⟩ g4;obtain⟨g7,g8⟩:=uP ⟨n1.2.2.1,by omega⟩ ⟨n2.2.2.1,by omega⟩ g6;exact⟨h.inj h' g1 g5 g7 g3,g8⟩
theorem DA{t0:Int}{p:Option aS}{e:aS}:true∈xF t0 p e:=by
 unfold xF dT;rw[zr (by unfold ii;omega)];simp
theorem wz{t0:Int}:∀ {l l':List aS} {p:Option aS} {s s':List Bool},jy p->dZ t0 p l->dZ t0 p l'->l.length=l'.length->dS t0 p l++s=dS t0 p l'++s'->l=l'/\s=s'
 | [],[],p,s,s',_,_,_,_,h=>⟨rfl,h⟩
 | [],_ ::_,p,s,s',_,_,_,h,_=>by simp at h
 | _ ::_,[],p,s,s',_,_,_,h,_=>by simp at h
 | e ::l,e' ::l',p,s,s',hp,h,h',hl,he=>by
  rw[dS,dS,List.append_assoc,List.append_assoc]at he;obtain⟨e1,e2⟩:=BK hp h.1 h'.1 he;subst e1;obtain⟨e3,e4⟩:=wz h.1.prev h.2 h'.2 (by simpa using hl) e2;exact⟨by rw[e3],e4⟩
theorem pE{t0:Int}:∀ {l l':List aS} {p:Option aS} {k:Nat} {s:List Bool},jy p->dZ t0 p l->dZ t0 p l'->l.length<l'.length->dS t0 p l++List.replicate k false≠dS t0 p l'++s
 | [],[],p,k,s,_,_,_,h,_=>by simp at h
 | [],e ::l',p,k,s,_,_,_,_,h=>by
  rw[dS,dS,List.nil_append,List.append_assoc]at h;have:true∈List.replicate k false:=by rw[h];simp[DA]
  simp at this
 | _ ::_,[],p,k,s,_,_,_,h,_=>by simp at h
 | e ::l,e' ::l',p,k,s,hp,h,h',hl,he=>by
  rw[dS,dS,List.append_assoc,List.append_assoc]at he;obtain⟨e1,e2⟩:=BK hp h.1 h'.1 he;subst e1;exact pE h.1.prev h.2 h'.2 (by simpa using hl) e2
theorem pD{t0:Int}{l l':List aS}(h:dZ t0 none l)(h':dZ t0 none l')(he:eL t0 l=eL t0 l'):l=l':=by
 have h1:=congrArg aX he;unfold eL at h1;rw[gM,gM]at h1;have hn:jy none:=fun q hq=>by cases hq
 rcases Nat.lt_trichotomy l.length l'.length with k | k | k
 ·exact absurd h1 (pE hn h h' k)
 ·exact(wz hn h h' k h1).1
 ·exact absurd h1.symm (pE hn h' h k)
theorem nf{v:Nat}(h:0<v)(P2:v<=2^63):(dT v).length<=127:=by
 rw[jq h];have:=kA (v:=v) (k:=64) (by omega);omega
theorem xE{t0:Int}{p:Option aS}{e:aS}(hp:jy p)(h:Bh t0 p e):(xF t0 p e).length<=400/\4<=(xF t0 p e).length:=by
 have n:=h.nums hp;have g1:=nf (v:=ii t0 p e) (by unfold ii;omega) (by omega);have g2:=nf (v:=jB p e) n.2.1.1 (by omega);have g3:=nf (v:=jr p e) n.2.2.1 (by omega);have k1:=jq (v:=ii t0 p e) (by unfold ii;omega);have k2:=jq (v:=jB p e) n.2.1.1;have k3:=jq (v:=jr p e) n.2.2.1;unfold xF;simp only[List.length_append,List.length_cons];omega
theorem jR{t0:Int}:∀ {l:List aS} {p:Option aS},jy p->dZ t0 p l->(dS t0 p l).length<=400*l.length/\4*l.length<=(dS t0 p l).length
 | [],p,_,_=>by simp[dS]
 | e ::l,p,hp,h=>by
  have h1:=xE hp h.1;have h2:=jR h.1.prev h.2;rw[dS,List.length_append,List.length_cons];omega
theorem i9{t0:Int}{l:List aS}(h:dZ t0 none l):(eL t0 l).length<=50*l.length+1/\l.length<=2*(eL t0 l).length:=by
 have:=jR (fun q hq=>by cases hq) h;unfold eL;rw[bM];omega
theorem dp(t0:Int)(l:List aS):aW (eL t0 l):=rV _
theorem my{t0:Int}:∀ {l m:List aS} {p:Option aS},dS t0 p (l++m)=dS t0 p l++dS t0 (d9 l p) m
 | [],m,p=>by simp[dS,d9]
 | e ::l,m,p=>by
  rw[List.cons_append,dS,dS,my,List.append_assoc];rfl
theorem dZ.append{t0:Int}:∀ {l m:List aS} {p:Option aS},dZ t0 p (l++m)↔dZ t0 p l/\dZ t0 (d9 l p) m
 | [],m,p=>by simp[dZ,d9]
 | e ::l,m,p=>by
  rw[List.cons_append,dZ,dZ,dZ.append];have:d9 (e ::l) p=d9 l (some e):=rfl;rw[this,and_assoc]
theorem gx(l:List aS)(e:aS)(p:Option aS):d9 (l++[e]) p=some e:=by simp[d9]
theorem lG.delOk{N t0:Int}(hN:N<=4294967296):∀ {l:List aS} {p:Option aS} {now:List Edge},lG N l p now->(∀ e∈l,0<=e.u)->(p=none->∀ e,l.head?=some e->e.t=t0)->dZ t0 p l
 | [],p,now,_,_,_=>trivial
 | e ::l,p,now,h,hu,h0=>by
  obtain⟨h1,h2,h3,x,_,h4⟩:=h;refine⟨⟨h1,⟨hu e (by simp),h2.1,by omega⟩,?_⟩,h4.delOk hN (fun a ha=>hu a (by simp[ha])) (fun hq=>by cases hq)⟩;cases p with
  | none=>exact h0 rfl e rfl
  | some q=>exact h3 q rfl
def eQ:List Edge->List aS->Bool
 | _,[]=>true
 | now,e ::l=>match ct now e with
  | none=>false
  | some x=>eQ x l
theorem mw:∀ {l m:List aS} {now:List Edge},eQ now (l++m)=(eQ now l && eQ (dA l now) m)
 | [],m,now=>by simp[eQ,dA]
 | e ::l,m,now=>by
  rw[List.cons_append,eQ,eQ,mv];cases ct now e with
  | none=>simp
  | some x=>simp[mw]
theorem lG.fits{N:Int}:∀ {l:List aS} {p:Option aS} {now:List Edge},lG N l p now->eQ now l=true
 | [],p,now,_=>rfl
 | e ::l,p,now,h=>by
  obtain⟨h1,h2,h3,x,hx,h4⟩:=h;rw[eQ,hx];exact h4.fits
def kM(l:List aS):Int:=match l with
 | []=>0
 | e ::_=>e.t
theorem dZ.t0{t0:Int}{l:List aS}(h:dZ t0 none l)(FS:l≠[]):kM l=t0:=by
 cases l with
 | nil=>exact absurd rfl FS
 | cons e l=>exact h.1.2.2
def fk(t0:Int)(key:List Edge)(l:List aS):List Int:=cF (de (js key)).length++(de (js key)++de (eL t0 l))
structure qx(t0:Int)(key:List Edge)(l:List aS):Prop where
 adj:nG key
 ne:l≠[]
 del:dZ t0 none l
 fit:eQ key l=true
def gz(key:List Edge)(l:List aS):Int:=if nC key=false∨l=[] then 23 else if kG (kM l) none l=false then 23 else if eQ key l=false then 25 else 0
theorem wH{key:List Edge}{l:List aS}(hk:fJ key)(Oz:key.length<=2^30)(hl:nE l):gz key l=0↔qx (kM l) key l:=by
 unfold gz;have h1:=qs hk Oz;have h2:=ly (t0:=kM l) (p:=none) hl;constructor
 ·intro h;split at h
  ·omega
  ·rename_i a;split at h
   ·omega
   ·rename_i b;split at h
    ·omega
    ·rename_i c;simp only[not_or,Bool.not_eq_false]at a b c;exact⟨h1.1 a.1,a.2,h2.1 b,c⟩
 ·rintro⟨a,b,c,d⟩;rw[if_neg (by rw[h1.2 a];simp[b]),if_neg (by rw[h2.2 c];simp),if_neg (by rw[d];simp)]
theorem pp:∀(l:List Int)(s nx:Nat),(∀ v∈l,0<=v/\v<=15)->s+l.length<=256->(dC l s nx).length<=3*l.length
 | [],s,nx,_,_=>by simp[dC]
 | x ::l,s,nx,h,hs=>by
  have hx:=h x (by simp);simp only[List.length_cons]at hs;have ih1:=pp l (s+1) (s+1) (fun v hv=>h v (by simp[hv])) (by omega);have ih2:=pp l (s+1) nx (fun v hv=>h v (by simp[hv])) (by omega);rw[dC];split
  ·have a1:=ue (s-nx) 2 (by omega) (by omega);have a2:=ue x.toNat 1 (by omega) (by omega);simp only[List.length_append,List.length_cons];omega
  ·simp only[List.length_cons];omega
theorem hZ{b:List Int}(hb:aW b)(hl:b.length<2^60):(de b).length<=2*b.length+800:=by
 unfold de;split
 ·have:=cR (v:=0) (by omega);omega
 ·rename_i FS;obtain⟨l1,r1,s1,v1⟩:=fu hb FS;have h1:=cR (v:=b.length) (by omega);have hp:=kr (lF b);have h2:=cR (v:=cZ (lF b)) (by omega);have h3:=pp (lF b) 0 0 v1 (by omega);have h4:=nk r1 (fe b);have h5:=mP r1 (fe b);have h6:(fe b).length=b.length:=by simp
  simp only[List.length_append,bM];omega
theorem iP(t0:Int)(key:List Edge)(l:List aS):aW (fk t0 key l):=by
 intro y hy;unfold fk at hy;rcases List.mem_append.1 hy with h | h
 ·exact gu _ y h
 rcases List.mem_append.1 h with h | h
 ·exact oM _ y h
 ·exact oM _ y h
theorem kb{t0:Int}{key:List Edge}{l:List aS}(h:qx t0 key l)(hk:key.length<=2^20)(hl:l.length<=2^20):(fk t0 key l).length<=60*key.length+100*l.length+1640:=by
 have h1:=nD h.adj.edgesB h.adj.len;have h2:=(i9 h.del).1;have h3:=hZ (dX key) (by omega);have h4:=hZ (dp t0 l) (by omega);have h5:=cR (v:=(de (js key)).length) (by omega);unfold fk;simp only[List.length_append];omega
theorem vb{t0 t1:Int}{key key':List Edge}{l l':List aS}{s s':List Int}(h:qx t0 key l)(h':qx t1 key' l')(hl:l.length<=2^50)(Ja:l'.length<=2^50)(he:fk t0 key l++s=fk t1 key' l'++s'):key=key'/\eL t0 l=eL t1 l'/\s=s':=by
 have b1:=dX key;have b2:=dX key';have c1:=nD h.adj.edgesB h.adj.len;have c2:=nD h'.adj.edgesB h'.adj.len;have m1:=h.adj.len;have m2:=h'.adj.len;have d1:=(i9 h.del).1;have d2:=(i9 h'.del).1;have e1:=hZ b1 (by omega);have e2:=hZ b2 (by omega);unfold fk at he;simp only[List.append_assoc]at he;obtain⟨f1,f2⟩:=jZ (by omega) (by omega) he;have g1:=uf b1 b2 (by omega) (by omega) f2;have g2:=zA h.adj h'.adj g1;subst g2;have f3:=List.append_cancel_left f2;have g3:=uf (dp _ _) (dp _ _) (by omega) (by omega) f3;rw[g3]at f3;exact⟨rfl,g3,List.append_cancel_left f3⟩
structure qy(x:List Int)(n t0 count:Int)(key:List Edge)(l:List aS):Prop where
 ok:qx t0 key l
 keyV:∀ e∈key,e.2<n
 evtV:∀ e∈l,e.v<n
 len:(l.length:Int)=count
 eq:x=fk t0 key l
theorem qy.uniq{x:List Int}{n t0 count n' t0' count':Int}{key key':List Edge}{l l':List aS}(h:qy x n t0 count key l)(h':qy x n' t0' count' key' l')(hl:l.length<=2^50)(Ja:l'.length<=2^50):key=key'/\eL t0 l=eL t0' l':=by
 have:=vb (s:=[]) (s':=[]) h.ok h'.ok hl Ja (by rw[← h.eq,← h'.eq]);exact⟨this.1,this.2.1⟩
theorem DQ{x a d:List Int}(ha:aW a)(hd:aW d)(h:x=cF (de a).length++(de a++de d)):a.length<=8*x.length/\d.length<=8*x.length:=by
 have h1:=nP ha rfl;have h2:=nP hd rfl;rw[h];simp only[List.length_append];omega
end Go.Proofs.YtlieaecnllkefaaGreat

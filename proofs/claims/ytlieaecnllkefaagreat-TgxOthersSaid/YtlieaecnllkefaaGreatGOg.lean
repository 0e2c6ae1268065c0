/- Own texts, packed: O1, O2, O3. -/
import Derived.Test.YtlieaecnllkefaaGreatGNg
import Derived.Test.YtlieaecnllkefaaGreatGIg
set_option linter.unusedVariables false
set_option linter.unusedSimpArgs false
namespace Go.Proofs.YtlieaecnllkefaaGreat
open Go Go.V Go.RowKit
def iM(u:Int)(l:List Edge):Nat:=(l.takeWhile fun x=>decide (x.1=u)).length
def dJ(u v:Int):List Edge->List Nat
  | []=>[]
  | e ::r=>if e.1=u then(e.2-v-1).toNat ::dJ u e.2 r
      else(e.1-u-1).toNat ::(1+iM e.1 r) ::(e.2-e.1-1).toNat ::dJ e.1 e.2 r
def fl(u:Int):List Edge->Nat
 | []=>0
 | e ::r=>if e.1=u then fl u r else 1+fl e.1 r
def vt(l:List Edge):List Nat:=fl (-1) l ::dJ (-1) 0 l
def kJ(l:List Edge):List Int:=bY (vt l)
def lR(l:List Edge):Bool:=eu l && l.all fun e=>decide (e.1<e.2)
def eW(l:List Edge):Prop:=∀ e∈l,(0<=e.1/\e.1<=4294967295)/\0<=e.2/\e.2<=4294967295
structure qg(l:List Edge):Prop where
 rise:fp l
 right:∀ e∈l,0<=e.1/\e.1<e.2/\e.2<=4294967295
 len:l.length<=2^30
theorem nZ{l:List Edge}(hb:eW l)(hl:l.length<=2^30):lR l=true↔qg l:=by
 unfold lR;rw[Bool.and_eq_true,fJ,List.all_eq_true];constructor
 ·rintro⟨h1,h2⟩;refine⟨h1,fun e he=>?_,hl⟩;have:=h2 e he;simp only[decide_eq_true_eq]at this;have:=hb e he;omega
 ·rintro⟨h1,h2,_⟩;exact⟨h1,fun e he=>by have:=h2 e he;simp;omega⟩
theorem qg.edgesB{l:List Edge}(h:qg l):eW l:=fun e he=>by have:=h.right e he;omega
theorem dW(a:Nat)(l:List Nat):bY (a ::l)=cy a++bY l:=by simp[bY]
theorem tT:bY []=[]:=rfl
theorem kc(a b:List Nat):bY (a++b)=bY a++bY b:=by simp[bY]
theorem vO(l:List Nat):aR (bY l):=by
 intro y hy;simp only[bY,List.mem_flatMap]at hy;obtain⟨a,_,h⟩:=hy;exact fC a y h
theorem Bm(l:List Nat):l.length<=(bY l).length:=by
 induction l with
 | nil=>simp
 | cons a l ih=>rw[dW,List.length_append,List.length_cons];have:=lg a;omega
theorem z7{a b:List Nat}(ha:∀ x∈a,x<2^64)(hb:∀ x∈b,x<2^64)(h:bY a=bY b):a=b:=by
 induction a generalizing b with
 | nil =>
  cases b with
  | nil=>rfl
  | cons y b =>
   rw[tT,dW]at h;have:=congrArg List.length h;have hp:=lg y;rw[List.length_append,List.length_nil]at this;omega
 | cons x a ih =>
  cases b with
  | nil =>
   rw[tT,dW]at h;have:=congrArg List.length h;have hp:=lg x;rw[List.length_append,List.length_nil]at this;omega
  | cons y b =>
   rw[dW,dW]at h;obtain⟨e1,e2⟩:=i4 (ha x (by simp)) (hb y (by simp)) h;rw[e1,ih (fun z hz=>ha z (by simp[hz])) (fun z hz=>hb z (by simp[hz])) e2]
theorem fI(u:Int)(e:Edge)(l:List Edge):iM u (e ::l)=if e.1=u then 1+iM u l else 0:=by
 unfold iM;rw[List.takeWhile_cons];by_cases h:e.1=u
 ·simp[h];omega
 ·simp[h]
theorem y6(u:Int)(l:List Edge):iM u l<=l.length:=by
 unfold iM;exact(List.takeWhile_sublist _).length_le
theorem tO{u:Int}{l:List Edge}(h:∀ e,l.head?=some e->e.1≠u):iM u l=0:=by
 cases l with
 | nil=>rfl
 | cons e l=>rw[fI,if_neg (h e rfl)]
theorem zm(u:Int)(l:List Edge):fl u l<=l.length:=by
 induction l generalizing u with
 | nil=>simp[fl]
 | cons e l ih =>
  rw[fl];have h1:=ih u;have h2:=ih e.1;split <;>simp <;>omega
theorem pr(u v:Int)(e:Edge)(r:List Edge)(h:e.1=u):dJ u v (e ::r)=(e.2-v-1).toNat ::dJ u e.2 r:=by rw[dJ,if_pos h]
theorem ut(u v:Int)(e:Edge)(r:List Edge)(h:e.1≠u):dJ u v (e ::r)=(e.1-u-1).toNat ::iM e.1 (e ::r) ::dJ e.1 e.1 (e ::r):=by
 rw[dJ,if_neg h,fI,if_pos rfl,pr _ _ _ _ rfl]
theorem xq(u v:Int)(l:List Edge):(dJ u v l).length<=3*l.length:=by
 induction l generalizing u v with
 | nil=>simp[dJ]
 | cons e l ih =>
  rw[dJ];split
  ·have:=ih u e.2;simp;omega
  ·have:=ih e.1 e.2;simp;omega
theorem zE(u v:Int)(l:List Edge)(hu:-1<=u)(hv:0<=v)(h:eW l)(hl:l.length<=2^30):∀ x∈dJ u v l,x<2^32:=by
 induction l generalizing u v with
 | nil=>simp[dJ]
 | cons e l ih =>
  have he:=h e (by simp);have hr:eW l:=fun a ha=>h a (by simp[ha]);simp only[List.length_cons]at hl;intro x hx;rw[dJ]at hx;split at hx
  ·rcases List.mem_cons.1 hx with rfl | hx
   ·omega
   ·exact ih u e.2 hu (by omega) hr (by omega) x hx
  ·rcases List.mem_cons.1 hx with rfl | hx
   ·omega
   rcases List.mem_cons.1 hx with rfl | hx
   ·have:=y6 e.1 l;omega
   rcases List.mem_cons.1 hx with rfl | hx
   ·omega
   exact ih e.1 e.2 (by omega) (by omega) hr (by omega) x hx
theorem qA{l:List Edge}(h:eW l)(hl:l.length<=2^30):∀ x∈vt l,x<2^32:=by
 intro x hx;rcases List.mem_cons.1 hx with rfl | hx
 ·have:=zm (-1) l;omega
 ·exact zE _ _ l (by omega) (by omega) h hl x hx
theorem oa{l:List Edge}(h:eW l)(hl:l.length<=2^30):(kJ l).length<=30*l.length+10:=by
 have h1:=oS (l:=vt l) fun x hx=>by have:=qA h hl x hx;omega
 have h2:=xq (-1) 0 l;unfold kJ;simp only[vt,List.length_cons]at *;omega
theorem dY(l:List Edge):aR (kJ l):=vO _
theorem xr:∀ {l m:List Edge} {u v:Int},-1<=u->fp l->fp m->(∀ e∈l,0<=e.1/\e.1<e.2)->(∀ e∈m,0<=e.1/\e.1<e.2)->(∀ e∈l,u<e.1∨e.1=u/\v<e.2)->(∀ e∈m,u<e.1∨e.1=u/\v<e.2)->iM u l=iM u m->dJ u v l=dJ u v m->l=m
 | [],[],u,v,_,_,_,_,_,_,_,_,_=>rfl
 | [],e ::m,u,v,_,_,_,_,_,_,_,_,h=>by rw[dJ,dJ]at h;split at h <;>simp at h
 | e ::l,[],u,v,_,_,_,_,_,_,_,_,h=>by rw[dJ,dJ]at h;split at h <;>simp at h
 | e ::l,e' ::m,u,v,hu,hl,hm,rl,rm,bl,bm,hr,h=>by
  rw[fI,fI]at hr;rw[dJ,dJ]at h;have r1:=rl e (by simp);have r2:=rm e' (by simp);have b1:=bl e (by simp);have b2:=bm e' (by simp);have pl:=List.pairwise_cons.1 hl;have pm:=List.pairwise_cons.1 hm;have key:e=e'->iM e.1 l=iM e.1 m->dJ e.1 e.2 l=dJ e.1 e.2 m->e ::l=e' ::m:=by
   rintro rfl h1 h2;rw[xr (by omega) pl.2 pm.2 (fun a ha=>rl a (by simp[ha])) (fun a ha=>rm a (by simp[ha])) (fun a ha=>by have:=dI.1 (pl.1 a ha);omega) (fun a ha=>by have:=dI.1 (pm.1 a ha);omega) h1 h2]
  by_cases c1:e.1=u
  ·by_cases c2:e'.1=u
   ·rw[if_pos c1,if_pos c2]at h hr;simp only[List.cons.injEq]at h;have he:e=e':=Prod.ext (by omega) (by omega);refine key he (by rw[c1];omega) ?_;rw[c1];have:e.2=e'.2:=by omega
    rw[this]at h ⊢;exact h.2
   ·rw[if_pos c1,if_neg c2]at hr;omega
  ·by_cases c2:e'.1=u
   ·rw[if_neg c1,if_pos c2]at hr;omega
   ·rw[if_neg c1,if_neg c2]at h;simp only[List.cons.injEq]at h;obtain⟨h1,h2,h3,h4⟩:=h;have JL:e.1=e'.1:=by omega
    have Md:e.2=e'.2:=by omega
    refine key (Prod.ext JL Md) ?_ ?_
    ·rw[← JL]at h2;omega
    ·rw[← JL,← Md]at h4;exact h4
theorem xt{l m:List Edge}(hl:qg l)(hm:qg m)(h:kJ l=kJ m):l=m:=by
 have h1:=z7 (fun x hx=>by have:=qA hl.edgesB hl.len x hx;omega) (fun x hx=>by have:=qA hm.edgesB hm.len x hx;omega) h;simp only[vt,List.cons.injEq]at h1;have z:∀ {l:List Edge},qg l->iM (-1) l=0:=fun {l} h=>tO fun e he=>by
  have:=h.right e (List.mem_of_head? he);omega
 exact xr (u:=-1) (v:=0) (by omega) hl.rise hm.rise (fun e he=>by have:=hl.right e he;omega) (fun e he=>by have:=hm.right e he;omega)
  (fun e he=>by have:=hl.right e he;omega) (fun e he=>by have:=hm.right e he;omega) (by rw[z hl,z hm]) h1.2
theorem CZ(u v:Int)(l:List Edge):l.length<=(dJ u v l).length:=by
 induction l generalizing u v with
 | nil=>simp
 | cons e l ih =>
  rw[dJ];split
  ·have:=ih u e.2;simp;omega
  ·have:=ih e.1 e.2;simp;omega
theorem C0(l:List Edge):l.length<=(kJ l).length:=by
 have h1:=Bm (vt l);have h2:=CZ (-1) 0 l;unfold kJ;simp only[vt,List.length_cons]at *;omega
def blen(v:Nat):Nat:=if v=0 then 0 else 1+blen (v / 2)
termination_by v
decreasing_by omega
theorem xj{v:Nat}(h:0<v):blen v=1+blen (v / 2):=by rw[blen,if_neg (by omega)]
theorem mA:blen 0=0:=by rw[blen,if_pos rfl]
theorem gm(v:Nat):v<2^blen v/\(0<v->2^(blen v-1)<=v/\0<blen v):=by
 induction v using Nat.strongRecOn with
 | _ v ih =>
  by_cases h:v=0
  ·subst h;rw[mA];simp
  ·rw[xj (by omega)];obtain⟨h1,h2⟩:=ih (v / 2) (by omega);refine⟨by rw[Nat.add_comm,Nat.pow_succ];omega,fun _=>⟨?_,by omega⟩⟩;rw[Nat.add_sub_cancel_left];by_cases h0:0<v / 2
   ·obtain⟨k1,k2⟩:=h2 h0;obtain⟨q,hq⟩:∃ q,blen (v / 2)=q+1:=⟨blen (v / 2)-1,by omega⟩;rw[hq,Nat.add_sub_cancel]at k1;rw[hq,Nat.pow_succ];omega
   ·have:v / 2=0:=by omega
    rw[this,mA];omega
theorem mB{v k:Nat}(h:v<2^k):blen v<=k:=by
 by_cases h0:0<v
 ·obtain⟨h1,h2⟩:=(gm v).2 h0;have:blen v-1<k:=(Nat.pow_lt_pow_iff_right (a:=2) (by omega)).1 (by omega);omega
 ·have:v=0:=by omega
  rw[this,mA];omega
def gx(v:Nat):List Bool:=List.replicate (blen v-1) false++cX (v:Int) (blen v)
theorem iA{v:Nat}(h:0<v):(gx v).length=2*(blen v-1)+1:=by
 have:=((gm v).2 h).2;unfold gx;rw[List.length_append,List.length_replicate,dX];omega
theorem qI{v:Int}(h:0<=v):∀(n:Nat)(a:Int),(cX v n).foldl (fun v b=>2*v+fq b) a=a*2^n+v % 2^n
 | 0,a=>by simp[cX]
 | n+1,a=>by
  rw[cX,List.foldl_cons,qI h n];have hp:(0:Int)<2^n:=Int.pow_pos (by omega);have e:v % 2^(n+1)=v % 2^n+2^n*fq (fo v n):=by
   have h1:(2:Int)^(n+1)=2^n*2:=by rw[Int.pow_succ]
   have hq:=Int.emod_add_mul_ediv (v / 2^n) 2;have hv:=Int.emod_add_mul_ediv v (2^n);have Fk:=Int.emod_nonneg v (show(2:Int)^n≠0 by omega);have GF:=Int.emod_lt_of_pos v hp;have hb:fq (fo v n)=v / 2^n % 2:=by
    unfold fq fo;have h2:=Int.emod_nonneg (v / 2^n) (show(2:Int)≠0 by omega);have h3:=Int.emod_lt_of_pos (v / 2^n) (show(0:Int)<2 by omega);by_cases h4:v / 2^n % 2=1
    ·simp[h4]
    ·have h5:v / 2^n % 2=0:=by omega
     simp[h5]
   have Ek:=fL (fo v n);have hs:v=(v % 2^n+2^n*fq (fo v n))+2^n*2*(v / 2^n / 2):=by
    rw[hb,Int.mul_assoc,Int.add_assoc,← Int.mul_add,hq,hv]
   rw[h1]
   conv=>lhs;rw[hs]
   rw[Int.add_mul_emod_self_left];refine Int.emod_eq_of_lt ?_ ?_
   ·have:0<=2^n*fq (fo v n):=Int.mul_nonneg (Int.le_of_lt hp) Ek.1;omega
   ·have:2^n*fq (fo v n)<=2^n*1:=Int.mul_le_mul_of_nonneg_left Ek.2 (Int.le_of_lt hp);omega
  rw[e];have h6:(2*a+fq (fo v n))*2^n=a*2^(n+1)+2^n*fq (fo v n):=by
   rw[Int.add_mul,Int.pow_succ,Int.mul_comm (fq (fo v n)),Int.mul_comm 2 a,Int.mul_assoc a 2,Int.mul_comm 2 (2^n)]
  rw[h6];omega
theorem BY{v:Nat}(h:0<v):fo (v:Int) (blen v-1)=true:=by
 obtain⟨h1,h2⟩:=(gm v).2 h;have h3:=(gm v).1;obtain⟨q,hq⟩:∃ q,blen v=q+1:=⟨blen v-1,by omega⟩;rw[hq]at h1 h3 ⊢;rw[Nat.add_sub_cancel]at h1 ⊢;rw[Nat.pow_succ]at h3;have:v / 2^q=1:=by
  apply Nat.div_eq_of_lt_le <;>omega
 unfold fo;rw[show(2:Int)^q=((2^q:Nat):Int) by simp,show((v:Int) / ((2^q:Nat):Int))=((v / 2^q:Nat):Int) by simp,this];rfl
theorem xk{v:Nat}(h:0<v):cX (v:Int) (blen v)=true ::cX (v:Int) (blen v-1):=by
 obtain⟨q,hq⟩:∃ q,blen v=q+1:=⟨blen v-1,by have:=((gm v).2 h).2;omega⟩;have:=BY h;rw[hq,Nat.add_sub_cancel]at *;rw[cX,this]
def pu(bs:List Bool):Nat:=(bs.takeWhile fun b=>!b).length
theorem Ce(k:Nat)(r:List Bool):pu (List.replicate k false++true ::r)=k:=by
 induction k with
 | zero=>simp[pu]
 | succ k ih =>
  unfold pu at ih ⊢;rw[List.replicate_succ,List.cons_append,List.takeWhile_cons];simp[ih]
theorem Dg{bs:List Bool}{z:Nat}(h:∀ i,i<z->bs[i]?=some false)(h1:bs[z]?≠some false):pu bs=z:=by
 induction z generalizing bs with
 | zero =>
  cases bs with
  | nil=>rfl
  | cons b bs=>cases b <;>simp_all [pu]
 | succ z ih =>
  cases bs with
  | nil=>have:=h 0 (by omega);simp at this
  | cons b bs =>
   have h0:=h 0 (by omega);simp at h0;subst h0;have:=ih (bs:=bs) (fun i hi=>by simpa using h (i+1) (by omega)) (by simpa using h1);unfold pu at this ⊢;rw[List.takeWhile_cons];simp[this]
def pe(bs:List Bool):Option (Int×Nat) :=
 if pu bs<64/\2*pu bs+1<=bs.length then some (2^pu bs+jj ((bs.drop (pu bs+1)).take (pu bs)),2*pu bs+1) else none
theorem zo{v:Nat}(h:0<v)(rest:List Bool):gx v++rest=List.replicate (blen v-1) false++true ::(cX (v:Int) (blen v-1)++rest):=by
 unfold gx;rw[xk h,List.append_assoc,List.cons_append]
theorem rO{v:Nat}(h:0<v)(Mo:v<2^64)(rest:List Bool):pe (gx v++rest)=some ((v:Int),(gx v).length):=by
 have hz:pu (gx v++rest)=blen v-1:=by rw[zo h,Ce]
 have hl:=iA h;have hb:=mB Mo;obtain⟨h1,h2⟩:=(gm v).2 h;have h3:=(gm v).1;unfold pe;rw[hz,if_pos ⟨by omega,by rw[List.length_append,hl];omega⟩,hl];have hd:((gx v++rest).drop (blen v-1+1)).take (blen v-1)=cX (v:Int) (blen v-1):=by
  rw[zo h,← List.drop_drop,List.drop_left' (by simp),List.drop_succ_cons,List.drop_zero,List.take_left' (dX _ _)]
 rw[hd];unfold jj;rw[qI (by omega)];obtain⟨q,hq⟩:∃ q,blen v=q+1:=⟨blen v-1,by omega⟩;rw[hq]at h1 h3 ⊢;rw[Nat.add_sub_cancel]at h1 ⊢;rw[Nat.pow_succ]at h3;have e:(v:Int) % 2^q=(v:Int)-2^q:=by
  have e1:((2^q:Nat):Int)=2^q:=by simp
  rw[← e1,show(v:Int)=((v-2^q:Nat):Int)+((2^q:Nat):Int) by omega,Int.add_emod_right,Int.emod_eq_of_lt (by omega) (by omega)];omega
 rw[e];congr 2;omega
theorem rQ{u v:Nat}{s t:List Bool}(hu:0<u/\u<2^64)(hv:0<v/\v<2^64)(h:gx u++s=gx v++t):u=v/\s=t:=by
 have h1:=rO hu.1 hu.2 s;have h2:=rO hv.1 hv.2 t;rw[h,h2]at h1;simp only[Option.some.injEq,Prod.mk.injEq]at h1;have e:u=v:=by omega
 subst e;exact⟨rfl,List.append_cancel_left h⟩
theorem CM{bs:List Bool}{v:Int}{n:Nat}(h:pe bs=some (v,n)):1<=v/\v<2^64/\0<n/\n<=bs.length/\n<=127:=by
 unfold pe at h;split at h
 ·rename_i hz;simp only[Option.some.injEq,Prod.mk.injEq]at h;obtain⟨h1,h2⟩:=h;have hv:=qH ((bs.drop (pu bs+1)).take (pu bs));have hl:((bs.drop (pu bs+1)).take (pu bs)).length=pu bs:=by rw[List.length_take,List.length_drop];omega
  rw[hl]at hv;have hp:(0:Int)<2^pu bs:=Int.pow_pos (by omega);have hq:((2:Int))^pu bs<=2^63:=by
   have:=Nat.pow_le_pow_right (n:=2) (by omega) (show pu bs<=63 by omega);have e1:((2^pu bs:Nat):Int)=2^pu bs:=by simp
   omega
  omega
 ·cases h
def gk(t0:Int)(p:Option aU)(e:aU):Nat:=(e.t-(match p with | some q=>q.t | none=>t0)).toNat+1
def ja(p:Option aU)(e:aU):Nat:=match p with
 | some q=>if e.t=q.t then(e.u-q.u).toNat+1 else e.u.toNat+1
 | none=>e.u.toNat+1
def iL(p:Option aU)(e:aU):Nat:=match p with
 | some q=>if e.t=q.t/\e.u=q.u then(e.v-q.v).toNat else(e.v-e.u).toNat
 | none=>(e.v-e.u).toNat
def xA(t0:Int)(p:Option aU)(e:aU):List Bool:=gx (gk t0 p e)++(e.add ::(gx (ja p e)++gx (iL p e)))
def dN(t0:Int):Option aU->List aU->List Bool
 | _,[]=>[]
 | p,e ::l=>xA t0 p e++dN t0 (some e) l
def ez(t0:Int)(l:List aU):List Int:=dD (dN t0 none l)
def lT(l:List aU):Prop:=∀ e∈l,((0<=e.u/\e.u<=4294967295)/\0<=e.v/\e.v<=4294967295)/\-9223372036854775808<=e.t/\e.t<=9223372036854775807
def yU(t0:Int)(p:Option aU)(e:aU):Prop:=(0<=e.t/\e.t<=4611686018427387903)/\(0<=e.u/\e.u<e.v/\e.v<=4294967295)/\(match p with | none=>e.t=t0 | some q=>bC q e=true)
def dO(t0:Int):Option aU->List aU->Prop
 | _,[]=>True
 | p,e ::l=>yU t0 p e/\dO t0 (some e) l
def jY(t0:Int):Option aU->List aU->Bool
 | _,[]=>true
 | p,e ::l=>(decide (0<=e.t/\e.t<=4611686018427387903/\e.u<e.v) && (match p with | none=>decide (e.t=t0) | some q=>bC q e)) && jY t0 (some e) l
theorem lN{t0:Int}:∀ {l:List aU} {p:Option aU},lT l->(jY t0 p l=true↔dO t0 p l)
 | [],p,_=>by simp[jY,dO]
 | e ::l,p,h=>by
  have he:=h e (by simp);have ih:=lN (t0:=t0) (l:=l) (p:=some e) fun a ha=>h a (by simp[ha]);unfold jY dO;rw[Bool.and_eq_true,ih,Bool.and_eq_true,decide_eq_true_eq];unfold yU;constructor
  ·rintro⟨⟨h1,h2⟩,h3⟩;refine⟨⟨by omega,by omega,?_⟩,h3⟩;cases p with
   | none=>simpa using h2
   | some q=>exact h2
  ·rintro⟨⟨h1,h2,h4⟩,h3⟩;refine⟨⟨by omega,?_⟩,h3⟩;cases p with
   | none=>simpa using h4
   | some q=>exact h4
theorem yU.nums{t0:Int}{p:Option aU}{e:aU}(h:yU t0 p e)(hp:∀ q,p=some q->0<=q.t/\0<=q.u/\0<=q.v):gk t0 p e<=2^62/\(0<ja p e/\ja p e<=2^32)/\0<iL p e/\iL p e<=2^32:=by
 obtain⟨h1,h2,h3⟩:=h;cases p with
 | none =>
  simp only at h3;unfold gk ja iL;simp only;omega
 | some q =>
  have hq:=hp q rfl;simp only[dT]at h3;unfold gk ja iL;simp only;refine⟨by omega,by split <;>omega,?_⟩;split <;>omega
theorem yU.inj{t0:Int}{p:Option aU}{e e':aU}(h:yU t0 p e)(h':yU t0 p e')(h1:gk t0 p e=gk t0 p e')(h2:ja p e=ja p e')(h3:iL p e=iL p e')(h4:e.add=e'.add):e=e':=by
 obtain⟨a1,a2,a3⟩:=h;obtain⟨b1,b2,b3⟩:=h';obtain⟨t,u,v,ad⟩:=e;obtain⟨t',u',v',ad'⟩:=e';simp only at *;subst h4;cases p with
 | none =>
  simp only[gk,ja,iL]at *;have:t=t':=by omega
  have:u=u':=by omega
  have:v=v':=by omega
  simp[*]
 | some q =>
  simp only[gk,ja,iL,dT]at *;have e1:t=t':=by omega
  subst e1;by_cases c:t=q.t
  ·simp only[c,if_true,true_and]at *;have e2:u=u':=by omega
   subst e2;have e3:v=v':=by split at h3 <;>omega
   simp[*]
  ·simp only[c,if_false,false_and]at *;have e2:u=u':=by omega
   subst e2;have e3:v=v':=by omega
   simp[*]
def jA(p:Option aU):Prop:=∀ q,p=some q->0<=q.t/\0<=q.u/\0<=q.v
theorem yU.prev{t0:Int}{p:Option aU}{e:aU}(h:yU t0 p e):jA (some e):=by
 intro q hq;cases hq;have:=h.1;have:=h.2.1;omega
theorem zt{t0:Int}{p:Option aU}{e e':aU}{s s':List Bool}(hp:jA p)(h:yU t0 p e)(h':yU t0 p e')(he:xA t0 p e++s=xA t0 p e'++s'):e=e'/\s=s':=by
 have n1:=h.nums hp;have n2:=h'.nums hp;unfold xA at he;simp only[List.append_assoc,List.cons_append]at he;obtain⟨g1,g2⟩:=rQ ⟨by unfold gk;omega,by omega⟩ ⟨by unfold gk;omega,by omega⟩ he;simp only[List.cons.injEq]at g2;obtain⟨g3,g4⟩:=g2;obtain⟨g5,g6⟩:=rQ ⟨n1.2.1.1,by omega⟩ ⟨n2.2.1.1,by omega⟩ g4;obtain⟨g7,g8⟩:=rQ ⟨n1.2.2.1,by omega⟩ ⟨n2.2.2.1,by omega⟩ g6;exact⟨h.inj h' g1 g5 g7 g3,g8⟩
theorem BI{t0:Int}{p:Option aU}{e:aU}:true∈xA t0 p e:=by
 unfold xA gx;rw[xk (by unfold gk;omega)];simp
theorem uk{t0:Int}:∀ {l l':List aU} {p:Option aU} {s s':List Bool},jA p->dO t0 p l->dO t0 p l'->l.length=l'.length->dN t0 p l++s=dN t0 p l'++s'->l=l'/\s=s'
 | [],[],p,s,s',_,_,_,_,h=>⟨rfl,h⟩
 | [],_ ::_,p,s,s',_,_,_,h,_=>by simp at h
 | _ ::_,[],p,s,s',_,_,_,h,_=>by simp at h
 | e ::l,e' ::l',p,s,s',hp,h,h',hl,he=>by
  rw[dN,dN,List.append_assoc,List.append_assoc]at he;obtain⟨e1,e2⟩:=zt hp h.1 h'.1 he;subst e1;obtain⟨e3,e4⟩:=uk h.1.prev h.2 h'.2 (by simpa using hl) e2;exact⟨by rw[e3],e4⟩
theorem nt{t0:Int}:∀ {l l':List aU} {p:Option aU} {k:Nat} {s:List Bool},jA p->dO t0 p l->dO t0 p l'->l.length<l'.length->dN t0 p l++List.replicate k false≠dN t0 p l'++s
 | [],[],p,k,s,_,_,_,h,_=>by simp at h
 | [],e ::l',p,k,s,_,_,_,_,h=>by
  rw[dN,dN,List.nil_append,List.append_assoc]at h;have:true∈List.replicate k false:=by rw[h];simp[BI]
  simp at this
 | _ ::_,[],p,k,s,_,_,_,h,_=>by simp at h
 | e ::l,e' ::l',p,k,s,hp,h,h',hl,he=>by
  rw[dN,dN,List.append_assoc,List.append_assoc]at he;obtain⟨e1,e2⟩:=zt hp h.1 h'.1 he;subst e1;exact nt h.1.prev h.2 h'.2 (by simpa using hl) e2
theorem nr{t0:Int}{l l':List aU}(h:dO t0 none l)(h':dO t0 none l')(he:ez t0 l=ez t0 l'):l=l':=by
 have h1:=congrArg aS he;unfold ez at h1;rw[fF,fF]at h1;have hn:jA none:=fun q hq=>by cases hq
 rcases Nat.lt_trichotomy l.length l'.length with k | k | k
 ·exact absurd h1 (nt hn h h' k)
 ·exact(uk hn h h' k h1).1
 ·exact absurd h1.symm (nt hn h' h k)
theorem lG{v:Nat}(h:0<v)(Mo:v<=2^63):(gx v).length<=127:=by
 rw[iA h];have:=mB (v:=v) (k:=64) (by omega);omega
theorem zu{t0:Int}{p:Option aU}{e:aU}(hp:jA p)(h:yU t0 p e):(xA t0 p e).length<=400/\4<=(xA t0 p e).length:=by
 have n:=h.nums hp;have g1:=lG (v:=gk t0 p e) (by unfold gk;omega) (by omega);have g2:=lG (v:=ja p e) n.2.1.1 (by omega);have g3:=lG (v:=iL p e) n.2.2.1 (by omega);have k1:=iA (v:=gk t0 p e) (by unfold gk;omega);have k2:=iA (v:=ja p e) n.2.1.1;have k3:=iA (v:=iL p e) n.2.2.1;unfold xA;simp only[List.length_append,List.length_cons];omega
theorem mw{t0:Int}:∀ {l:List aU} {p:Option aU},jA p->dO t0 p l->(dN t0 p l).length<=400*l.length/\4*l.length<=(dN t0 p l).length
 | [],p,_,_=>by simp[dN]
 | e ::l,p,hp,h=>by
  have h1:=zu hp h.1;have h2:=mw h.1.prev h.2;rw[dN,List.length_append,List.length_cons];omega
theorem jb{t0:Int}{l:List aU}(h:dO t0 none l):(ez t0 l).length<=50*l.length+1/\l.length<=2*(ez t0 l).length:=by
 have:=mw (fun q hq=>by cases hq) h;unfold ez;rw[bK];omega
theorem dq(t0:Int)(l:List aU):aR (ez t0 l):=pJ _
theorem nW{t0:Int}:∀ {l m:List aU} {p:Option aU},dN t0 p (l++m)=dN t0 p l++dN t0 (f9 l p) m
 | [],m,p=>by simp[dN,f9]
 | e ::l,m,p=>by
  rw[List.cons_append,dN,dN,nW,List.append_assoc];rfl
theorem dO.append{t0:Int}:∀ {l m:List aU} {p:Option aU},dO t0 p (l++m)↔dO t0 p l/\dO t0 (f9 l p) m
 | [],m,p=>by simp[dO,f9]
 | e ::l,m,p=>by
  rw[List.cons_append,dO,dO,dO.append];have:f9 (e ::l) p=f9 l (some e):=rfl;rw[this,and_assoc]
theorem kq(l:List aU)(e:aU)(p:Option aU):f9 (l++[e]) p=some e:=by simp[f9]
theorem j4.delOk{N t0:Int}(hN:N<=4294967296):∀ {l:List aU} {p:Option aU} {now:List Edge},j4 N l p now->(∀ e∈l,0<=e.u)->(p=none->∀ e,l.head?=some e->e.t=t0)->dO t0 p l
 | [],p,now,_,_,_=>trivial
 | e ::l,p,now,h,hu,h0=>by
  obtain⟨h1,h2,h3,x,_,h4⟩:=h;refine⟨⟨h1,⟨hu e (by simp),h2.1,by omega⟩,?_⟩,h4.delOk hN (fun a ha=>hu a (by simp[ha])) (fun hq=>by cases hq)⟩;cases p with
  | none=>exact h0 rfl e rfl
  | some q=>exact h3 q rfl
def nT:List Edge->List aU->Bool
 | _,[]=>true
 | now,e ::l=>match bX now e with
  | none=>false
  | some x=>nT x l
theorem j4.fits{N:Int}:∀ {l:List aU} {p:Option aU} {now:List Edge},j4 N l p now->nT now l=true
 | [],p,now,_=>rfl
 | e ::l,p,now,h=>by
  obtain⟨h1,h2,h3,x,hx,h4⟩:=h;rw[nT,hx];exact h4.fits
def mR(l:List aU):Int:=match l with
 | []=>0
 | e ::_=>e.t
theorem dO.t0{t0:Int}{l:List aU}(h:dO t0 none l)(DJ:l≠[]):mR l=t0:=by
 cases l with
 | nil=>exact absurd rfl DJ
 | cons e l=>exact h.1.2.2
def ic(t0:Int)(key:List Edge)(l:List aU):List Int:=cy (cW (kJ key)).length++(cW (kJ key)++cW (ez t0 l))
structure ux(t0:Int)(key:List Edge)(l:List aU):Prop where
 adj:qg key
 ne:l≠[]
 del:dO t0 none l
 fit:nT key l=true
def fE(key:List Edge)(l:List aU):Int:=if lR key=false∨l=[] then 23 else if jY (mR l) none l=false then 23 else if nT key l=false then 25 else 0
theorem uo{key:List Edge}{l:List aU}(hk:eW key)(Mb:key.length<=2^30)(hl:lT l):fE key l=0↔ux (mR l) key l:=by
 unfold fE;have h1:=nZ hk Mb;have h2:=lN (t0:=mR l) (p:=none) hl;constructor
 ·intro h;split at h
  ·omega
  ·rename_i a;split at h
   ·omega
   ·rename_i b;split at h
    ·omega
    ·rename_i c;simp only[not_or,Bool.not_eq_false]at a b c;exact⟨h1.1 a.1,a.2,h2.1 b,c⟩
 ·rintro⟨a,b,c,d⟩;rw[if_neg (by rw[h1.2 a];simp[b]),if_neg (by rw[h2.2 c];simp),if_neg (by rw[d];simp)]
theorem nf:∀(l:List Int)(s nx:Nat),(∀ v∈l,0<=v/\v<=15)->s+l.length<=256->(dE l s nx).length<=3*l.length
 | [],s,nx,_,_=>by simp[dE]
 | x ::l,s,nx,h,hs=>by
  have hx:=h x (by simp);simp only[List.length_cons]at hs;have ih1:=nf l (s+1) (s+1) (fun v hv=>h v (by simp[hv])) (by omega);have ih2:=nf l (s+1) nx (fun v hv=>h v (by simp[hv])) (by omega);rw[dE];split
  ·have a1:=qX (s-nx) 2 (by omega) (by omega);have a2:=qX x.toNat 1 (by omega) (by omega);simp only[List.length_append,List.length_cons];omega
  ·simp only[List.length_cons];omega
theorem iQ{b:List Int}(hb:aR b)(hl:b.length<2^60):(cW b).length<=2*b.length+800:=by
 unfold cW;split
 ·have:=dk (v:=0) (by omega);omega
 ·rename_i DJ;obtain⟨l1,r1,s1,v1⟩:=ff hb DJ;have h1:=dk (v:=b.length) (by omega);have hp:=mg (lr b);have h2:=dk (v:=dp (lr b)) (by omega);have h3:=nf (lr b) 0 0 v1 (by omega);have h4:=pT r1 (fu b);have h5:=pB r1 (fu b);have h6:(fu b).length=b.length:=by simp
  simp only[List.length_append,bK];omega
theorem kG(t0:Int)(key:List Edge)(l:List aU):aR (ic t0 key l):=by
 intro y hy;unfold ic at hy;rcases List.mem_append.1 hy with h | h
 ·exact fC _ y h
 rcases List.mem_append.1 h with h | h
 ·exact mV _ y h
 ·exact mV _ y h
theorem sB{t0:Int}{key:List Edge}{l:List aU}(h:ux t0 key l)(hk:key.length<=2^20)(hl:l.length<=2^20):(ic t0 key l).length<=60*key.length+100*l.length+1640:=by
 have h1:=oa h.adj.edgesB h.adj.len;have h2:=(jb h.del).1;have h3:=iQ (dY key) (by omega);have h4:=iQ (dq t0 l) (by omega);have h5:=dk (v:=(cW (kJ key)).length) (by omega);unfold ic;simp only[List.length_append];omega
theorem sA{t0 t1:Int}{key key':List Edge}{l l':List aU}{s s':List Int}(h:ux t0 key l)(h':ux t1 key' l')(hl:l.length<=2^50)(GK:l'.length<=2^50)(he:ic t0 key l++s=ic t1 key' l'++s'):key=key'/\ez t0 l=ez t1 l'/\s=s':=by
 have b1:=dY key;have b2:=dY key';have c1:=oa h.adj.edgesB h.adj.len;have c2:=oa h'.adj.edgesB h'.adj.len;have m1:=h.adj.len;have m2:=h'.adj.len;have d1:=(jb h.del).1;have d2:=(jb h'.del).1;have e1:=iQ b1 (by omega);have e2:=iQ b2 (by omega);unfold ic at he;simp only[List.append_assoc]at he;obtain⟨f1,f2⟩:=i4 (by omega) (by omega) he;have g1:=qY b1 b2 (by omega) (by omega) f2;have g2:=xt h.adj h'.adj g1;subst g2;have f3:=List.append_cancel_left f2;have g3:=qY (dq _ _) (dq _ _) (by omega) (by omega) f3;rw[g3]at f3;exact⟨rfl,g3,List.append_cancel_left f3⟩
structure qf(x:List Int)(n t0 count:Int)(key:List Edge)(l:List aU):Prop where
 ok:ux t0 key l
 keyV:∀ e∈key,e.2<n
 evtV:∀ e∈l,e.v<n
 len:(l.length:Int)=count
 eq:x=ic t0 key l
theorem qf.uniq{x:List Int}{n t0 count n' t0' count':Int}{key key':List Edge}{l l':List aU}(h:qf x n t0 count key l)(h':qf x n' t0' count' key' l')(hl:l.length<=2^50)(GK:l'.length<=2^50):key=key'/\ez t0 l=ez t0' l':=by
 have:=sA (s:=[]) (s':=[]) h.ok h'.ok hl GK (by rw[← h.eq,← h'.eq]);exact⟨this.1,this.2.1⟩
theorem BX{x a d:List Int}(ha:aR a)(hd:aR d)(h:x=cy (cW a).length++(cW a++cW d)):a.length<=8*x.length/\d.length<=8*x.length:=by
 have h1:=md ha rfl;have h2:=md hd rfl;rw[h];simp only[List.length_append];omega
end Go.Proofs.YtlieaecnllkefaaGreat

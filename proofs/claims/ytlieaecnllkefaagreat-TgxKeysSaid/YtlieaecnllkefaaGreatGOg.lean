/- Own texts, packed: O1, O2, O3. -/
import Derived.Test.YtlieaecnllkefaaGreatGNg
import Derived.Test.YtlieaecnllkefaaGreatGIg
set_option linter.unusedVariables false
set_option linter.unusedSimpArgs false
namespace Go.Proofs.YtlieaecnllkefaaGreat
open Go Go.V Go.RowKit
def fM(u:Int)(l:List Edge):Nat:=(l.takeWhile fun x=>decide (x.1=u)).length
def dA(u v:Int):List Edge->List Nat
  | []=>[]
  | e ::r=>if e.1=u then(e.2-v-1).toNat ::dA u e.2 r
      else(e.1-u-1).toNat ::(1+fM e.1 r) ::(e.2-e.1-1).toNat ::dA e.1 e.2 r
def eR(u:Int):List Edge->Nat
 | []=>0
 | e ::r=>if e.1=u then eR u r else 1+eR e.1 r
def uR(l:List Edge):List Nat:=eR (-1) l ::dA (-1) 0 l
def fF(l:List Edge):List Int:=aX (uR l)
def nv(l:List Edge):Bool:=fm l && l.all fun e=>decide (e.1<e.2)
def fJ(l:List Edge):Prop:=∀ e∈l,(0<=e.1/\e.1<=4294967295)/\0<=e.2/\e.2<=4294967295
structure nz(l:List Edge):Prop where
 rise:fW l
 right:∀ e∈l,0<=e.1/\e.1<e.2/\e.2<=4294967295
 len:l.length<=2^30
theorem qf{l:List Edge}(hb:fJ l)(hl:l.length<=2^30):nv l=true↔nz l:=by
 unfold nv;rw[Bool.and_eq_true,gD,List.all_eq_true];constructor
 ·rintro⟨h1,h2⟩;refine⟨h1,fun e he=>?_,hl⟩;have:=h2 e he;simp only[decide_eq_true_eq]at this;have:=hb e he;omega
 ·rintro⟨h1,h2,_⟩;exact⟨h1,fun e he=>by have:=h2 e he;simp;omega⟩
theorem nz.edgesB{l:List Edge}(h:nz l):fJ l:=fun e he=>by have:=h.right e he;omega
theorem dm(a:Nat)(l:List Nat):aX (a ::l)=bX a++aX l:=by simp[aX]
theorem kE:aX []=[]:=rfl
theorem eJ(a b:List Nat):aX (a++b)=aX a++aX b:=by simp[aX]
theorem rh(l:List Nat):aQ (aX l):=by
 intro y hy;simp only[aX,List.mem_flatMap]at hy;obtain⟨a,_,h⟩:=hy;exact gm a y h
theorem x0(l:List Nat):l.length<=(aX l).length:=by
 induction l with
 | nil=>simp
 | cons a l ih=>rw[dm,List.length_append,List.length_cons];have:=kF a;omega
theorem Ca{a b:List Nat}(ha:∀ x∈a,x<2^64)(hb:∀ x∈b,x<2^64)(h:aX a=aX b):a=b:=by
 induction a generalizing b with
 | nil =>
  cases b with
  | nil=>rfl
  | cons y b =>
   rw[kE,dm]at h;have:=congrArg List.length h;have hp:=kF y;rw[List.length_append,List.length_nil]at this;omega
 | cons x a ih =>
  cases b with
  | nil =>
   rw[kE,dm]at h;have:=congrArg List.length h;have hp:=kF x;rw[List.length_append,List.length_nil]at this;omega
  | cons y b =>
   rw[dm,dm]at h;obtain⟨e1,e2⟩:=jK (ha x (by simp)) (hb y (by simp)) h;rw[e1,ih (fun z hz=>ha z (by simp[hz])) (fun z hz=>hb z (by simp[hz])) e2]
theorem ek(u:Int)(e:Edge)(l:List Edge):fM u (e ::l)=if e.1=u then 1+fM u l else 0:=by
 unfold fM;rw[List.takeWhile_cons];by_cases h:e.1=u
 ·simp[h];omega
 ·simp[h]
theorem sM(u:Int)(l:List Edge):fM u l<=l.length:=by
 unfold fM;exact(List.takeWhile_sublist _).length_le
theorem vI{u:Int}{l:List Edge}(h:∀ e,l.head?=some e->e.1≠u):fM u l=0:=by
 cases l with
 | nil=>rfl
 | cons e l=>rw[ek,if_neg (h e rfl)]
theorem Bp(u:Int)(l:List Edge):eR u l<=l.length:=by
 induction l generalizing u with
 | nil=>simp[eR]
 | cons e l ih =>
  rw[eR];have h1:=ih u;have h2:=ih e.1;split <;>simp <;>omega
theorem jD(u v:Int)(e:Edge)(r:List Edge)(h:e.1=u):dA u v (e ::r)=(e.2-v-1).toNat ::dA u e.2 r:=by rw[dA,if_pos h]
theorem nS(u v:Int)(e:Edge)(r:List Edge)(h:e.1≠u):dA u v (e ::r)=(e.1-u-1).toNat ::fM e.1 (e ::r) ::dA e.1 e.1 (e ::r):=by
 rw[dA,if_neg h,ek,if_pos rfl,jD _ _ _ _ rfl]
theorem uS(u v:Int)(l:List Edge):(dA u v l).length<=3*l.length:=by
 induction l generalizing u v with
 | nil=>simp[dA]
 | cons e l ih =>
  rw[dA];split
  ·have:=ih u e.2;simp;omega
  ·have:=ih e.1 e.2;simp;omega
theorem xz(u v:Int)(l:List Edge)(hu:-1<=u)(hv:0<=v)(h:fJ l)(hl:l.length<=2^30):∀ x∈dA u v l,x<2^32:=by
 induction l generalizing u v with
 | nil=>simp[dA]
 | cons e l ih =>
  have he:=h e (by simp);have hr:fJ l:=fun a ha=>h a (by simp[ha]);simp only[List.length_cons]at hl;intro x hx;rw[dA]at hx;split at hx
  ·rcases List.mem_cons.1 hx with rfl | hx
   ·omega
   ·exact ih u e.2 hu (by omega) hr (by omega) x hx
  ·rcases List.mem_cons.1 hx with rfl | hx
   ·omega
   rcases List.mem_cons.1 hx with rfl | hx
   ·have:=sM e.1 l;omega
   rcases List.mem_cons.1 hx with rfl | hx
   ·omega
   exact ih e.1 e.2 (by omega) (by omega) hr (by omega) x hx
theorem qe{l:List Edge}(h:fJ l)(hl:l.length<=2^30):∀ x∈uR l,x<2^32:=by
 intro x hx;rcases List.mem_cons.1 hx with rfl | hx
 ·have:=Bp (-1) l;omega
 ·exact xz _ _ l (by omega) (by omega) h hl x hx
theorem jQ{l:List Edge}(h:fJ l)(hl:l.length<=2^30):(fF l).length<=30*l.length+10:=by
 have h1:=fO (l:=uR l) fun x hx=>by have:=qe h hl x hx;omega
 have h2:=uS (-1) 0 l;unfold fF;simp only[uR,List.length_cons]at *;omega
theorem dx(l:List Edge):aQ (fF l):=rh _
theorem zh:∀ {l m:List Edge} {u v:Int},-1<=u->fW l->fW m->(∀ e∈l,0<=e.1/\e.1<e.2)->(∀ e∈m,0<=e.1/\e.1<e.2)->(∀ e∈l,u<e.1∨e.1=u/\v<e.2)->(∀ e∈m,u<e.1∨e.1=u/\v<e.2)->fM u l=fM u m->dA u v l=dA u v m->l=m
 | [],[],u,v,_,_,_,_,_,_,_,_,_=>rfl
 | [],e ::m,u,v,_,_,_,_,_,_,_,_,h=>by rw[dA,dA]at h;split at h <;>simp at h
 | e ::l,[],u,v,_,_,_,_,_,_,_,_,h=>by rw[dA,dA]at h;split at h <;>simp at h
 | e ::l,e' ::m,u,v,hu,hl,hm,rl,rm,bl,bm,hr,h=>by
  rw[ek,ek]at hr;rw[dA,dA]at h;have r1:=rl e (by simp);have r2:=rm e' (by simp);have b1:=bl e (by simp);have b2:=bm e' (by simp);have pl:=List.pairwise_cons.1 hl;have pm:=List.pairwise_cons.1 hm;have key:e=e'->fM e.1 l=fM e.1 m->dA e.1 e.2 l=dA e.1 e.2 m->e ::l=e' ::m:=by
   rintro rfl h1 h2;rw[zh (by omega) pl.2 pm.2 (fun a ha=>rl a (by simp[ha])) (fun a ha=>rm a (by simp[ha])) (fun a ha=>by have:=dK.1 (pl.1 a ha);omega) (fun a ha=>by have:=dK.1 (pm.1 a ha);omega) h1 h2]
  by_cases c1:e.1=u
  ·by_cases c2:e'.1=u
   ·rw[if_pos c1,if_pos c2]at h hr;simp only[List.cons.injEq]at h;have he:e=e':=Prod.ext (by omega) (by omega);refine key he (by rw[c1];omega) ?_;rw[c1];have:e.2=e'.2:=by omega
    rw[this]at h ⊢;exact h.2
   ·rw[if_pos c1,if_neg c2]at hr;omega
  ·by_cases c2:e'.1=u
   ·rw[if_neg c1,if_pos c2]at hr;omega
   ·rw[if_neg c1,if_neg c2]at h;simp only[List.cons.injEq]at h;obtain⟨h1,h2,h3,h4⟩:=h;have Na:e.1=e'.1:=by omega
    have Q7:e.2=e'.2:=by omega
    refine key (Prod.ext Na Q7) ?_ ?_
    ·rw[← Na]at h2;omega
    ·rw[← Na,← Q7]at h4;exact h4
theorem zi{l m:List Edge}(hl:nz l)(hm:nz m)(h:fF l=fF m):l=m:=by
 have h1:=Ca (fun x hx=>by have:=qe hl.edgesB hl.len x hx;omega) (fun x hx=>by have:=qe hm.edgesB hm.len x hx;omega) h;simp only[uR,List.cons.injEq]at h1;have z:∀ {l:List Edge},nz l->fM (-1) l=0:=fun {l} h=>vI fun e he=>by
  have:=h.right e (List.mem_of_head? he);omega
 exact zh (u:=-1) (v:=0) (by omega) hl.rise hm.rise (fun e he=>by have:=hl.right e he;omega) (fun e he=>by have:=hm.right e he;omega)
  (fun e he=>by have:=hl.right e he;omega) (fun e he=>by have:=hm.right e he;omega) (by rw[z hl,z hm]) h1.2
theorem BH(u v:Int)(l:List Edge):l.length<=(dA u v l).length:=by
 induction l generalizing u v with
 | nil=>simp
 | cons e l ih =>
  rw[dA];split
  ·have:=ih u e.2;simp;omega
  ·have:=ih e.1 e.2;simp;omega
theorem ES(l:List Edge):l.length<=(fF l).length:=by
 have h1:=x0 (uR l);have h2:=BH (-1) 0 l;unfold fF;simp only[uR,List.length_cons]at *;omega
def blen(v:Nat):Nat:=if v=0 then 0 else 1+blen (v / 2)
termination_by v
decreasing_by omega
theorem uO{v:Nat}(h:0<v):blen v=1+blen (v / 2):=by rw[blen,if_neg (by omega)]
theorem kZ:blen 0=0:=by rw[blen,if_pos rfl]
theorem fR(v:Nat):v<2^blen v/\(0<v->2^(blen v-1)<=v/\0<blen v):=by
 induction v using Nat.strongRecOn with
 | _ v ih =>
  by_cases h:v=0
  ·subst h;rw[kZ];simp
  ·rw[uO (by omega)];obtain⟨h1,h2⟩:=ih (v / 2) (by omega);refine⟨by rw[Nat.add_comm,Nat.pow_succ];omega,fun _=>⟨?_,by omega⟩⟩;rw[Nat.add_sub_cancel_left];by_cases h0:0<v / 2
   ·obtain⟨k1,k2⟩:=h2 h0;obtain⟨q,hq⟩:∃ q,blen (v / 2)=q+1:=⟨blen (v / 2)-1,by omega⟩;rw[hq,Nat.add_sub_cancel]at k1;rw[hq,Nat.pow_succ];omega
   ·have:v / 2=0:=by omega
    rw[this,kZ];omega
theorem jz{v k:Nat}(h:v<2^k):blen v<=k:=by
 by_cases h0:0<v
 ·obtain⟨h1,h2⟩:=(fR v).2 h0;have:blen v-1<k:=(Nat.pow_lt_pow_iff_right (a:=2) (by omega)).1 (by omega);omega
 ·have:v=0:=by omega
  rw[this,kZ];omega
def da(v:Nat):List Bool:=List.replicate (blen v-1) false++cF (v:Int) (blen v)
theorem gM{v:Nat}(h:0<v):(da v).length=2*(blen v-1)+1:=by
 have:=((fR v).2 h).2;unfold da;rw[List.length_append,List.length_replicate,dS];omega
theorem sX{v:Int}(h:0<=v):∀(n:Nat)(a:Int),(cF v n).foldl (fun v b=>2*v+eS b) a=a*2^n+v % 2^n
 | 0,a=>by simp[cF]
 | n+1,a=>by
  rw[cF,List.foldl_cons,sX h n];have hp:(0:Int)<2^n:=Int.pow_pos (by omega);have e:v % 2^(n+1)=v % 2^n+2^n*eS (eV v n):=by
   have h1:(2:Int)^(n+1)=2^n*2:=by rw[Int.pow_succ]
   have hq:=Int.emod_add_mul_ediv (v / 2^n) 2;have hv:=Int.emod_add_mul_ediv v (2^n);have Hm:=Int.emod_nonneg v (show(2:Int)^n≠0 by omega);have HF:=Int.emod_lt_of_pos v hp;have hb:eS (eV v n)=v / 2^n % 2:=by
    unfold eS eV;have h2:=Int.emod_nonneg (v / 2^n) (show(2:Int)≠0 by omega);have h3:=Int.emod_lt_of_pos (v / 2^n) (show(0:Int)<2 by omega);by_cases h4:v / 2^n % 2=1
    ·simp[h4]
    ·have h5:v / 2^n % 2=0:=by omega
     simp[h5]
   have FX:=ff (eV v n);have hs:v=(v % 2^n+2^n*eS (eV v n))+2^n*2*(v / 2^n / 2):=by
    rw[hb,Int.mul_assoc,Int.add_assoc,← Int.mul_add,hq,hv]
   rw[h1]
   conv=>lhs;rw[hs]
   rw[Int.add_mul_emod_self_left];refine Int.emod_eq_of_lt ?_ ?_
   ·have:0<=2^n*eS (eV v n):=Int.mul_nonneg (Int.le_of_lt hp) FX.1;omega
   ·have:2^n*eS (eV v n)<=2^n*1:=Int.mul_le_mul_of_nonneg_left FX.2 (Int.le_of_lt hp);omega
  rw[e];have h6:(2*a+eS (eV v n))*2^n=a*2^(n+1)+2^n*eS (eV v n):=by
   rw[Int.add_mul,Int.pow_succ,Int.mul_comm (eS (eV v n)),Int.mul_comm 2 a,Int.mul_assoc a 2,Int.mul_comm 2 (2^n)]
  rw[h6];omega
theorem DM{v:Nat}(h:0<v):eV (v:Int) (blen v-1)=true:=by
 obtain⟨h1,h2⟩:=(fR v).2 h;have h3:=(fR v).1;obtain⟨q,hq⟩:∃ q,blen v=q+1:=⟨blen v-1,by omega⟩;rw[hq]at h1 h3 ⊢;rw[Nat.add_sub_cancel]at h1 ⊢;rw[Nat.pow_succ]at h3;have:v / 2^q=1:=by
  apply Nat.div_eq_of_lt_le <;>omega
 unfold eV;rw[show(2:Int)^q=((2^q:Nat):Int) by simp,show((v:Int) / ((2^q:Nat):Int))=((v / 2^q:Nat):Int) by simp,this];rfl
theorem za{v:Nat}(h:0<v):cF (v:Int) (blen v)=true ::cF (v:Int) (blen v-1):=by
 obtain⟨q,hq⟩:∃ q,blen v=q+1:=⟨blen v-1,by have:=((fR v).2 h).2;omega⟩;have:=DM h;rw[hq,Nat.add_sub_cancel]at *;rw[cF,this]
def qp(bs:List Bool):Nat:=(bs.takeWhile fun b=>!b).length
theorem AS(k:Nat)(r:List Bool):qp (List.replicate k false++true ::r)=k:=by
 induction k with
 | zero=>simp[qp]
 | succ k ih =>
  unfold qp at ih ⊢;rw[List.replicate_succ,List.cons_append,List.takeWhile_cons];simp[ih]
theorem Fg{bs:List Bool}{z:Nat}(h:∀ i,i<z->bs[i]?=some false)(h1:bs[z]?≠some false):qp bs=z:=by
 induction z generalizing bs with
 | zero =>
  cases bs with
  | nil=>rfl
  | cons b bs=>cases b <;>simp_all [qp]
 | succ z ih =>
  cases bs with
  | nil=>have:=h 0 (by omega);simp at this
  | cons b bs =>
   have h0:=h 0 (by omega);simp at h0;subst h0;have:=ih (bs:=bs) (fun i hi=>by simpa using h (i+1) (by omega)) (by simpa using h1);unfold qp at this ⊢;rw[List.takeWhile_cons];simp[this]
def pX(bs:List Bool):Option (Int×Nat) :=
 if qp bs<64/\2*qp bs+1<=bs.length then some (2^qp bs+ij ((bs.drop (qp bs+1)).take (qp bs)),2*qp bs+1) else none
theorem xh{v:Nat}(h:0<v)(rest:List Bool):da v++rest=List.replicate (blen v-1) false++true ::(cF (v:Int) (blen v-1)++rest):=by
 unfold da;rw[za h,List.append_assoc,List.cons_append]
theorem pW{v:Nat}(h:0<v)(PX:v<2^64)(rest:List Bool):pX (da v++rest)=some ((v:Int),(da v).length):=by
 have hz:qp (da v++rest)=blen v-1:=by rw[xh h,AS]
 have hl:=gM h;have hb:=jz PX;obtain⟨h1,h2⟩:=(fR v).2 h;have h3:=(fR v).1;unfold pX;rw[hz,if_pos ⟨by omega,by rw[List.length_append,hl];omega⟩,hl];have hd:((da v++rest).drop (blen v-1+1)).take (blen v-1)=cF (v:Int) (blen v-1):=by
  rw[xh h,← List.drop_drop,List.drop_left' (by simp),List.drop_succ_cons,List.drop_zero,List.take_left' (dS _ _)]
 rw[hd];unfold ij;rw[sX (by omega)];obtain⟨q,hq⟩:∃ q,blen v=q+1:=⟨blen v-1,by omega⟩;rw[hq]at h1 h3 ⊢;rw[Nat.add_sub_cancel]at h1 ⊢;rw[Nat.pow_succ]at h3;have e:(v:Int) % 2^q=(v:Int)-2^q:=by
  have e1:((2^q:Nat):Int)=2^q:=by simp
  rw[← e1,show(v:Int)=((v-2^q:Nat):Int)+((2^q:Nat):Int) by omega,Int.add_emod_right,Int.emod_eq_of_lt (by omega) (by omega)];omega
 rw[e];congr 2;omega
theorem uw{u v:Nat}{s t:List Bool}(hu:0<u/\u<2^64)(hv:0<v/\v<2^64)(h:da u++s=da v++t):u=v/\s=t:=by
 have h1:=pW hu.1 hu.2 s;have h2:=pW hv.1 hv.2 t;rw[h,h2]at h1;simp only[Option.some.injEq,Prod.mk.injEq]at h1;have e:u=v:=by omega
 subst e;exact⟨rfl,List.append_cancel_left h⟩
theorem EH{bs:List Bool}{v:Int}{n:Nat}(h:pX bs=some (v,n)):1<=v/\v<2^64/\0<n/\n<=bs.length/\n<=127:=by
 unfold pX at h;split at h
 ·rename_i hz;simp only[Option.some.injEq,Prod.mk.injEq]at h;obtain⟨h1,h2⟩:=h;have hv:=mD ((bs.drop (qp bs+1)).take (qp bs));have hl:((bs.drop (qp bs+1)).take (qp bs)).length=qp bs:=by rw[List.length_take,List.length_drop];omega
  rw[hl]at hv;have hp:(0:Int)<2^qp bs:=Int.pow_pos (by omega);have hq:((2:Int))^qp bs<=2^63:=by
   have:=Nat.pow_le_pow_right (n:=2) (by omega) (show qp bs<=63 by omega);have e1:((2^qp bs:Nat):Int)=2^qp bs:=by simp
   omega
  omega
 ·cases h
def gi(t0:Int)(p:Option aW)(e:aW):Nat:=(e.t-(match p with | some q=>q.t | none=>t0)).toNat+1
def jj(p:Option aW)(e:aW):Nat:=match p with
 | some q=>if e.t=q.t then(e.u-q.u).toNat+1 else e.u.toNat+1
 | none=>e.u.toNat+1
def iL(p:Option aW)(e:aW):Nat:=match p with
 | some q=>if e.t=q.t/\e.u=q.u then(e.v-q.v).toNat else(e.v-e.u).toNat
 | none=>(e.v-e.u).toNat
def qM(t0:Int)(p:Option aW)(e:aW):List Bool:=da (gi t0 p e)++(e.add ::(da (jj p e)++da (iL p e)))
def cX(t0:Int):Option aW->List aW->List Bool
 | _,[]=>[]
 | p,e ::l=>qM t0 p e++cX t0 (some e) l
def db(t0:Int)(l:List aW):List Int:=dM (cX t0 none l)
def ny(l:List aW):Prop:=∀ e∈l,((0<=e.u/\e.u<=4294967295)/\0<=e.v/\e.v<=4294967295)/\-9223372036854775808<=e.t/\e.t<=9223372036854775807
def zp(t0:Int)(p:Option aW)(e:aW):Prop:=(0<=e.t/\e.t<=4611686018427387903)/\(0<=e.u/\e.u<e.v/\e.v<=4294967295)/\(match p with | none=>e.t=t0 | some q=>bN q e=true)
def dV(t0:Int):Option aW->List aW->Prop
 | _,[]=>True
 | p,e ::l=>zp t0 p e/\dV t0 (some e) l
def kl(t0:Int):Option aW->List aW->Bool
 | _,[]=>true
 | p,e ::l=>(decide (0<=e.t/\e.t<=4611686018427387903/\e.u<e.v) && (match p with | none=>decide (e.t=t0) | some q=>bN q e)) && kl t0 (some e) l
theorem jN{t0:Int}:∀ {l:List aW} {p:Option aW},ny l->(kl t0 p l=true↔dV t0 p l)
 | [],p,_=>by simp[kl,dV]
 | e ::l,p,h=>by
  have he:=h e (by simp);have ih:=jN (t0:=t0) (l:=l) (p:=some e) fun a ha=>h a (by simp[ha]);unfold kl dV;rw[Bool.and_eq_true,ih,Bool.and_eq_true,decide_eq_true_eq];unfold zp;constructor
  ·rintro⟨⟨h1,h2⟩,h3⟩;refine⟨⟨by omega,by omega,?_⟩,h3⟩;cases p with
   | none=>simpa using h2
   | some q=>exact h2
  ·rintro⟨⟨h1,h2,h4⟩,h3⟩;refine⟨⟨by omega,?_⟩,h3⟩;cases p with
   | none=>simpa using h4
   | some q=>exact h4
theorem zp.nums{t0:Int}{p:Option aW}{e:aW}(h:zp t0 p e)(hp:∀ q,p=some q->0<=q.t/\0<=q.u/\0<=q.v):gi t0 p e<=2^62/\(0<jj p e/\jj p e<=2^32)/\0<iL p e/\iL p e<=2^32:=by
 obtain⟨h1,h2,h3⟩:=h;cases p with
 | none =>
  simp only at h3;unfold gi jj iL;simp only;omega
 | some q =>
  have hq:=hp q rfl;simp only[dU]at h3;unfold gi jj iL;simp only;refine⟨by omega,by split <;>omega,?_⟩;split <;>omega
theorem zp.inj{t0:Int}{p:Option aW}{e e':aW}(h:zp t0 p e)(h':zp t0 p e')(h1:gi t0 p e=gi t0 p e')(h2:jj p e=jj p e')(h3:iL p e=iL p e')(h4:e.add=e'.add):e=e':=by
 obtain⟨a1,a2,a3⟩:=h;obtain⟨b1,b2,b3⟩:=h';obtain⟨t,u,v,ad⟩:=e;obtain⟨t',u',v',ad'⟩:=e';simp only at *;subst h4;cases p with
 | none =>
  simp only[gi,jj,iL]at *;have:t=t':=by omega
  have:u=u':=by omega
  have:v=v':=by omega
  simp[*]
 | some q =>
  simp only[gi,jj,iL,dU]at *;have e1:t=t':=by omega
  subst e1;by_cases c:t=q.t
  ·simp only[c,if_true,true_and]at *;have e2:u=u':=by omega
   subst e2;have e3:v=v':=by split at h3 <;>omega
   simp[*]
  ·simp only[c,if_false,false_and]at *;have e2:u=u':=by omega
   subst e2;have e3:v=v':=by omega
   simp[*]
def iG(p:Option aW):Prop:=∀ q,p=some q->0<=q.t/\0<=q.u/\0<=q.v
theorem zp.prev{t0:Int}{p:Option aW}{e:aW}(h:zp t0 p e):iG (some e):=by
 intro q hq;cases hq;have:=h.1;have:=h.2.1;omega
theorem Bw{t0:Int}{p:Option aW}{e e':aW}{s s':List Bool}(hp:iG p)(h:zp t0 p e)(h':zp t0 p e')(he:qM t0 p e++s=qM t0 p e'++s'):e=e'/\s=s':=by
 have n1:=h.nums hp;have n2:=h'.nums hp;unfold qM at he;simp only[List.append_assoc,List.cons_append]at he;obtain⟨g1,g2⟩:=uw ⟨by unfold gi;omega,by omega⟩ ⟨by unfold gi;omega,by omega⟩ he;simp only[List.cons.injEq]at g2;obtain⟨g3,g4⟩:=g2;obtain⟨g5,g6⟩:=uw ⟨n1.2.1.1,by omega⟩ ⟨n2.2.1.1,by omega⟩ g4;obtain⟨g7,g8⟩:=uw ⟨n1.2.2.1,by omega⟩ ⟨n2.2.2.1,by omega⟩ g6;exact⟨h.inj h' g1 g5 g7 g3,g8⟩
theorem Dr{t0:Int}{p:Option aW}{e:aW}:true∈qM t0 p e:=by
 unfold qM da;rw[za (by unfold gi;omega)];simp
theorem wc{t0:Int}:∀ {l l':List aW} {p:Option aW} {s s':List Bool},iG p->dV t0 p l->dV t0 p l'->l.length=l'.length->cX t0 p l++s=cX t0 p l'++s'->l=l'/\s=s'
 | [],[],p,s,s',_,_,_,_,h=>⟨rfl,h⟩
 | [],_ ::_,p,s,s',_,_,_,h,_=>by simp at h
 | _ ::_,[],p,s,s',_,_,_,h,_=>by simp at h
 | e ::l,e' ::l',p,s,s',hp,h,h',hl,he=>by
  rw[cX,cX,List.append_assoc,List.append_assoc]at he;obtain⟨e1,e2⟩:=Bw hp h.1 h'.1 he;subst e1;obtain⟨e3,e4⟩:=wc h.1.prev h.2 h'.2 (by simpa using hl) e2;exact⟨by rw[e3],e4⟩
theorem pw{t0:Int}:∀ {l l':List aW} {p:Option aW} {k:Nat} {s:List Bool},iG p->dV t0 p l->dV t0 p l'->l.length<l'.length->cX t0 p l++List.replicate k false≠cX t0 p l'++s
 | [],[],p,k,s,_,_,_,h,_=>by simp at h
 | [],e ::l',p,k,s,_,_,_,_,h=>by
  rw[cX,cX,List.nil_append,List.append_assoc]at h;have:true∈List.replicate k false:=by rw[h];simp[Dr]
  simp at this
 | _ ::_,[],p,k,s,_,_,_,h,_=>by simp at h
 | e ::l,e' ::l',p,k,s,hp,h,h',hl,he=>by
  rw[cX,cX,List.append_assoc,List.append_assoc]at he;obtain⟨e1,e2⟩:=Bw hp h.1 h'.1 he;subst e1;exact pw h.1.prev h.2 h'.2 (by simpa using hl) e2
theorem uG{t0:Int}{l l':List aW}(h:dV t0 none l)(h':dV t0 none l')(he:db t0 l=db t0 l'):l=l':=by
 have h1:=congrArg aM he;unfold db at h1;rw[fj,fj]at h1;have hn:iG none:=fun q hq=>by cases hq
 rcases Nat.lt_trichotomy l.length l'.length with k | k | k
 ·exact absurd h1 (pw hn h h' k)
 ·exact(wc hn h h' k h1).1
 ·exact absurd h1.symm (pw hn h' h k)
theorem nd{v:Nat}(h:0<v)(PX:v<=2^63):(da v).length<=127:=by
 rw[gM h];have:=jz (v:=v) (k:=64) (by omega);omega
theorem xk{t0:Int}{p:Option aW}{e:aW}(hp:iG p)(h:zp t0 p e):(qM t0 p e).length<=400/\4<=(qM t0 p e).length:=by
 have n:=h.nums hp;have g1:=nd (v:=gi t0 p e) (by unfold gi;omega) (by omega);have g2:=nd (v:=jj p e) n.2.1.1 (by omega);have g3:=nd (v:=iL p e) n.2.2.1 (by omega);have k1:=gM (v:=gi t0 p e) (by unfold gi;omega);have k2:=gM (v:=jj p e) n.2.1.1;have k3:=gM (v:=iL p e) n.2.2.1;unfold qM;simp only[List.length_append,List.length_cons];omega
theorem iX{t0:Int}:∀ {l:List aW} {p:Option aW},iG p->dV t0 p l->(cX t0 p l).length<=400*l.length/\4*l.length<=(cX t0 p l).length
 | [],p,_,_=>by simp[cX]
 | e ::l,p,hp,h=>by
  have h1:=xk hp h.1;have h2:=iX h.1.prev h.2;rw[cX,List.length_append,List.length_cons];omega
theorem fE{t0:Int}{l:List aW}(h:dV t0 none l):(db t0 l).length<=50*l.length+1/\l.length<=2*(db t0 l).length:=by
 have:=iX (fun q hq=>by cases hq) h;unfold db;rw[bM];omega
theorem cA(t0:Int)(l:List aW):aQ (db t0 l):=ru _
theorem iE{t0:Int}:∀ {l m:List aW} {p:Option aW},cX t0 p (l++m)=cX t0 p l++cX t0 (cW l p) m
 | [],m,p=>by simp[cX,cW]
 | e ::l,m,p=>by
  rw[List.cons_append,cX,cX,iE,List.append_assoc];rfl
theorem dV.append{t0:Int}:∀ {l m:List aW} {p:Option aW},dV t0 p (l++m)↔dV t0 p l/\dV t0 (cW l p) m
 | [],m,p=>by simp[dV,cW]
 | e ::l,m,p=>by
  rw[List.cons_append,dV,dV,dV.append];have:cW (e ::l) p=cW l (some e):=rfl;rw[this,and_assoc]
theorem eQ(l:List aW)(e:aW)(p:Option aW):cW (l++[e]) p=some e:=by simp[cW]
theorem k8.delOk{N t0:Int}(hN:N<=4294967296):∀ {l:List aW} {p:Option aW} {now:List Edge},k8 N l p now->(∀ e∈l,0<=e.u)->(p=none->∀ e,l.head?=some e->e.t=t0)->dV t0 p l
 | [],p,now,_,_,_=>trivial
 | e ::l,p,now,h,hu,h0=>by
  obtain⟨h1,h2,h3,x,_,h4⟩:=h;refine⟨⟨h1,⟨hu e (by simp),h2.1,by omega⟩,?_⟩,h4.delOk hN (fun a ha=>hu a (by simp[ha])) (fun hq=>by cases hq)⟩;cases p with
  | none=>exact h0 rfl e rfl
  | some q=>exact h3 q rfl
def fq:List Edge->List aW->Bool
 | _,[]=>true
 | now,e ::l=>match cu now e with
  | none=>false
  | some x=>fq x l
theorem l8:∀ {l m:List aW} {now:List Edge},fq now (l++m)=(fq now l && fq (dH l now) m)
 | [],m,now=>by simp[fq,dH]
 | e ::l,m,now=>by
  rw[List.cons_append,fq,fq,l6];cases cu now e with
  | none=>simp
  | some x=>simp[l8]
theorem k8.fits{N:Int}:∀ {l:List aW} {p:Option aW} {now:List Edge},k8 N l p now->fq now l=true
 | [],p,now,_=>rfl
 | e ::l,p,now,h=>by
  obtain⟨h1,h2,h3,x,hx,h4⟩:=h;rw[fq,hx];exact h4.fits
def qo(l:List aW):Int:=match l with
 | []=>0
 | e ::_=>e.t
theorem dV.t0{t0:Int}{l:List aW}(h:dV t0 none l)(FG:l≠[]):qo l=t0:=by
 cases l with
 | nil=>exact absurd rfl FG
 | cons e l=>exact h.1.2.2
def dY(t0:Int)(key:List Edge)(l:List aW):List Int:=bX (cy (fF key)).length++(cy (fF key)++cy (db t0 l))
structure uZ(t0:Int)(key:List Edge)(l:List aW):Prop where
 adj:nz key
 ne:l≠[]
 del:dV t0 none l
 fit:fq key l=true
def gu(key:List Edge)(l:List aW):Int:=if nv key=false∨l=[] then 23 else if kl (qo l) none l=false then 23 else if fq key l=false then 25 else 0
theorem wl{key:List Edge}{l:List aW}(hk:fJ key)(M0:key.length<=2^30)(hl:ny l):gu key l=0↔uZ (qo l) key l:=by
 unfold gu;have h1:=qf hk M0;have h2:=jN (t0:=qo l) (p:=none) hl;constructor
 ·intro h;split at h
  ·omega
  ·rename_i a;split at h
   ·omega
   ·rename_i b;split at h
    ·omega
    ·rename_i c;simp only[not_or,Bool.not_eq_false]at a b c;exact⟨h1.1 a.1,a.2,h2.1 b,c⟩
 ·rintro⟨a,b,c,d⟩;rw[if_neg (by rw[h1.2 a];simp[b]),if_neg (by rw[h2.2 c];simp),if_neg (by rw[d];simp)]
theorem pk:∀(l:List Int)(s nx:Nat),(∀ v∈l,0<=v/\v<=15)->s+l.length<=256->(dt l s nx).length<=3*l.length
 | [],s,nx,_,_=>by simp[dt]
 | x ::l,s,nx,h,hs=>by
  have hx:=h x (by simp);simp only[List.length_cons]at hs;have ih1:=pk l (s+1) (s+1) (fun v hv=>h v (by simp[hv])) (by omega);have ih2:=pk l (s+1) nx (fun v hv=>h v (by simp[hv])) (by omega);rw[dt];split
  ·have a1:=tQ (s-nx) 2 (by omega) (by omega);have a2:=tQ x.toNat 1 (by omega) (by omega);simp only[List.length_append,List.length_cons];omega
  ·simp only[List.length_cons];omega
theorem fv{b:List Int}(hb:aQ b)(hl:b.length<2^60):(cy b).length<=2*b.length+800:=by
 unfold cy;split
 ·have:=cK (v:=0) (by omega);omega
 ·rename_i FG;obtain⟨l1,r1,s1,v1⟩:=el hb FG;have h1:=cK (v:=b.length) (by omega);have hp:=jt (j7 b);have h2:=cK (v:=cH (j7 b)) (by omega);have h3:=pk (j7 b) 0 0 v1 (by omega);have h4:=ni r1 (er b);have h5:=mH r1 (er b);have h6:(er b).length=b.length:=by simp
  simp only[List.length_append,bM];omega
theorem jy(t0:Int)(key:List Edge)(l:List aW):aQ (dY t0 key l):=by
 intro y hy;unfold dY at hy;rcases List.mem_append.1 hy with h | h
 ·exact gm _ y h
 rcases List.mem_append.1 h with h | h
 ·exact iU _ y h
 ·exact iU _ y h
theorem uN{t0:Int}{key:List Edge}{l:List aW}(h:uZ t0 key l)(hk:key.length<=2^20)(hl:l.length<=2^20):(dY t0 key l).length<=60*key.length+100*l.length+1640:=by
 have h1:=jQ h.adj.edgesB h.adj.len;have h2:=(fE h.del).1;have h3:=fv (dx key) (by omega);have h4:=fv (cA t0 l) (by omega);have h5:=cK (v:=(cy (fF key)).length) (by omega);unfold dY;simp only[List.length_append];omega
theorem AH{t0 t1:Int}{key key':List Edge}{l l':List aW}{s s':List Int}(h:uZ t0 key l)(h':uZ t1 key' l')(hl:l.length<=2^50)(JD:l'.length<=2^50)(he:dY t0 key l++s=dY t1 key' l'++s'):key=key'/\db t0 l=db t1 l'/\s=s':=by
 have b1:=dx key;have b2:=dx key';have c1:=jQ h.adj.edgesB h.adj.len;have c2:=jQ h'.adj.edgesB h'.adj.len;have m1:=h.adj.len;have m2:=h'.adj.len;have d1:=(fE h.del).1;have d2:=(fE h'.del).1;have e1:=fv b1 (by omega);have e2:=fv b2 (by omega);unfold dY at he;simp only[List.append_assoc]at he;obtain⟨f1,f2⟩:=jK (by omega) (by omega) he;have g1:=tR b1 b2 (by omega) (by omega) f2;have g2:=zi h.adj h'.adj g1;subst g2;have f3:=List.append_cancel_left f2;have g3:=tR (cA _ _) (cA _ _) (by omega) (by omega) f3;rw[g3]at f3;exact⟨rfl,g3,List.append_cancel_left f3⟩
structure sw(x:List Int)(n t0 count:Int)(key:List Edge)(l:List aW):Prop where
 ok:uZ t0 key l
 keyV:∀ e∈key,e.2<n
 evtV:∀ e∈l,e.v<n
 len:(l.length:Int)=count
 eq:x=dY t0 key l
theorem sw.uniq{x:List Int}{n t0 count n' t0' count':Int}{key key':List Edge}{l l':List aW}(h:sw x n t0 count key l)(h':sw x n' t0' count' key' l')(hl:l.length<=2^50)(JD:l'.length<=2^50):key=key'/\db t0 l=db t0' l':=by
 have:=AH (s:=[]) (s':=[]) h.ok h'.ok hl JD (by rw[← h.eq,← h'.eq]);exact⟨this.1,this.2.1⟩
theorem DK{x a d:List Int}(ha:aQ a)(hd:aQ d)(h:x=bX (cy a).length++(cy a++cy d)):a.length<=8*x.length/\d.length<=8*x.length:=by
 have h1:=kH ha rfl;have h2:=kH hd rfl;rw[h];simp only[List.length_append];omega
end Go.Proofs.YtlieaecnllkefaaGreat

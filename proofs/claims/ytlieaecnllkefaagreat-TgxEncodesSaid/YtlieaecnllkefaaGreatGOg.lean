/- Own texts, packed: O1, O2, O3. -/
import Derived.Test.YtlieaecnllkefaaGreatGNg
import Derived.Test.YtlieaecnllkefaaGreatGIg
set_option linter.unusedVariables false
set_option linter.unusedSimpArgs false
namespace Go.Proofs.YtlieaecnllkefaaGreat
open Go Go.V Go.RowKit
def il(u:Int)(l:List Edge):Nat:=(l.takeWhile fun x=>decide (x.1=u)).length
def dR(u v:Int):List Edge->List Nat
  | []=>[]
  | e ::r=>if e.1=u then(e.2-v-1).toNat ::dR u e.2 r
      else(e.1-u-1).toNat ::(1+il e.1 r) ::(e.2-e.1-1).toNat ::dR e.1 e.2 r
def eQ(u:Int):List Edge->Nat
 | []=>0
 | e ::r=>if e.1=u then eQ u r else 1+eQ e.1 r
def vF(l:List Edge):List Nat:=eQ (-1) l ::dR (-1) 0 l
def jt(l:List Edge):List Int:=bF (vF l)
def ny(l:List Edge):Bool:=fg l && l.all fun e=>decide (e.1<e.2)
def fE(l:List Edge):Prop:=∀ e∈l,(0<=e.1/\e.1<=4294967295)/\0<=e.2/\e.2<=4294967295
structure oe(l:List Edge):Prop where
 rise:fV l
 right:∀ e∈l,0<=e.1/\e.1<e.2/\e.2<=4294967295
 len:l.length<=2^30
theorem qg{l:List Edge}(hb:fE l)(hl:l.length<=2^30):ny l=true↔oe l:=by
 unfold ny;rw[Bool.and_eq_true,gG,List.all_eq_true];constructor
 ·rintro⟨h1,h2⟩;refine⟨h1,fun e he=>?_,hl⟩;have:=h2 e he;simp only[decide_eq_true_eq]at this;have:=hb e he;omega
 ·rintro⟨h1,h2,_⟩;exact⟨h1,fun e he=>by have:=h2 e he;simp;omega⟩
theorem oe.edgesB{l:List Edge}(h:oe l):fE l:=fun e he=>by have:=h.right e he;omega
theorem dN(a:Nat)(l:List Nat):bF (a ::l)=cJ a++bF l:=by simp[bF]
theorem nJ:bF []=[]:=rfl
theorem io(a b:List Nat):bF (a++b)=bF a++bF b:=by simp[bF]
theorem yv(l:List Nat):aW (bF l):=by
 intro y hy;simp only[bF,List.mem_flatMap]at hy;obtain⟨a,_,h⟩:=hy;exact gl a y h
theorem Dt(l:List Nat):l.length<=(bF l).length:=by
 induction l with
 | nil=>simp
 | cons a l ih=>rw[dN,List.length_append,List.length_cons];have:=mR a;omega
theorem CA{a b:List Nat}(ha:∀ x∈a,x<2^64)(hb:∀ x∈b,x<2^64)(h:bF a=bF b):a=b:=by
 induction a generalizing b with
 | nil =>
  cases b with
  | nil=>rfl
  | cons y b =>
   rw[nJ,dN]at h;have:=congrArg List.length h;have hp:=mR y;rw[List.length_append,List.length_nil]at this;omega
 | cons x a ih =>
  cases b with
  | nil =>
   rw[nJ,dN]at h;have:=congrArg List.length h;have hp:=mR x;rw[List.length_append,List.length_nil]at this;omega
  | cons y b =>
   rw[dN,dN]at h;obtain⟨e1,e2⟩:=jT (ha x (by simp)) (hb y (by simp)) h;rw[e1,ih (fun z hz=>ha z (by simp[hz])) (fun z hz=>hb z (by simp[hz])) e2]
theorem fj(u:Int)(e:Edge)(l:List Edge):il u (e ::l)=if e.1=u then 1+il u l else 0:=by
 unfold il;rw[List.takeWhile_cons];by_cases h:e.1=u
 ·simp[h];omega
 ·simp[h]
theorem wO(u:Int)(l:List Edge):il u l<=l.length:=by
 unfold il;exact(List.takeWhile_sublist _).length_le
theorem vR{u:Int}{l:List Edge}(h:∀ e,l.head?=some e->e.1≠u):il u l=0:=by
 cases l with
 | nil=>rfl
 | cons e l=>rw[fj,if_neg (h e rfl)]
theorem BS(u:Int)(l:List Edge):eQ u l<=l.length:=by
 induction l generalizing u with
 | nil=>simp[eQ]
 | cons e l ih =>
  rw[eQ];have h1:=ih u;have h2:=ih e.1;split <;>simp <;>omega
theorem lu(u v:Int)(e:Edge)(r:List Edge)(h:e.1=u):dR u v (e ::r)=(e.2-v-1).toNat ::dR u e.2 r:=by rw[dR,if_pos h]
theorem qZ(u v:Int)(e:Edge)(r:List Edge)(h:e.1≠u):dR u v (e ::r)=(e.1-u-1).toNat ::il e.1 (e ::r) ::dR e.1 e.1 (e ::r):=by
 rw[dR,if_neg h,fj,if_pos rfl,lu _ _ _ _ rfl]
theorem zD(u v:Int)(l:List Edge):(dR u v l).length<=3*l.length:=by
 induction l generalizing u v with
 | nil=>simp[dR]
 | cons e l ih =>
  rw[dR];split
  ·have:=ih u e.2;simp;omega
  ·have:=ih e.1 e.2;simp;omega
theorem xQ(u v:Int)(l:List Edge)(hu:-1<=u)(hv:0<=v)(h:fE l)(hl:l.length<=2^30):∀ x∈dR u v l,x<2^32:=by
 induction l generalizing u v with
 | nil=>simp[dR]
 | cons e l ih =>
  have he:=h e (by simp);have hr:fE l:=fun a ha=>h a (by simp[ha]);simp only[List.length_cons]at hl;intro x hx;rw[dR]at hx;split at hx
  ·rcases List.mem_cons.1 hx with rfl | hx
   ·omega
   ·exact ih u e.2 hu (by omega) hr (by omega) x hx
  ·rcases List.mem_cons.1 hx with rfl | hx
   ·omega
   rcases List.mem_cons.1 hx with rfl | hx
   ·have:=wO e.1 l;omega
   rcases List.mem_cons.1 hx with rfl | hx
   ·omega
   exact ih e.1 e.2 (by omega) (by omega) hr (by omega) x hx
theorem sY{l:List Edge}(h:fE l)(hl:l.length<=2^30):∀ x∈vF l,x<2^32:=by
 intro x hx;rcases List.mem_cons.1 hx with rfl | hx
 ·have:=BS (-1) l;omega
 ·exact xQ _ _ l (by omega) (by omega) h hl x hx
theorem nz{l:List Edge}(h:fE l)(hl:l.length<=2^30):(jt l).length<=30*l.length+10:=by
 have h1:=fI (l:=vF l) fun x hx=>by have:=sY h hl x hx;omega
 have h2:=zD (-1) 0 l;unfold jt;simp only[vF,List.length_cons]at *;omega
theorem d8(l:List Edge):aW (jt l):=yv _
theorem zE:∀ {l m:List Edge} {u v:Int},-1<=u->fV l->fV m->(∀ e∈l,0<=e.1/\e.1<e.2)->(∀ e∈m,0<=e.1/\e.1<e.2)->(∀ e∈l,u<e.1∨e.1=u/\v<e.2)->(∀ e∈m,u<e.1∨e.1=u/\v<e.2)->il u l=il u m->dR u v l=dR u v m->l=m
 | [],[],u,v,_,_,_,_,_,_,_,_,_=>rfl
 | [],e ::m,u,v,_,_,_,_,_,_,_,_,h=>by rw[dR,dR]at h;split at h <;>simp at h
 | e ::l,[],u,v,_,_,_,_,_,_,_,_,h=>by rw[dR,dR]at h;split at h <;>simp at h
 | e ::l,e' ::m,u,v,hu,hl,hm,rl,rm,bl,bm,hr,h=>by
  rw[fj,fj]at hr;rw[dR,dR]at h;have r1:=rl e (by simp);have r2:=rm e' (by simp);have b1:=bl e (by simp);have b2:=bm e' (by simp);have pl:=List.pairwise_cons.1 hl;have pm:=List.pairwise_cons.1 hm;have key:e=e'->il e.1 l=il e.1 m->dR e.1 e.2 l=dR e.1 e.2 m->e ::l=e' ::m:=by
   rintro rfl h1 h2;rw[zE (by omega) pl.2 pm.2 (fun a ha=>rl a (by simp[ha])) (fun a ha=>rm a (by simp[ha])) (fun a ha=>by have:=dO.1 (pl.1 a ha);omega) (fun a ha=>by have:=dO.1 (pm.1 a ha);omega) h1 h2]
  by_cases c1:e.1=u
  ·by_cases c2:e'.1=u
   ·rw[if_pos c1,if_pos c2]at h hr;simp only[List.cons.injEq]at h;have he:e=e':=Prod.ext (by omega) (by omega);refine key he (by rw[c1];omega) ?_;rw[c1];have:e.2=e'.2:=by omega
    rw[this]at h ⊢;exact h.2
   ·rw[if_pos c1,if_neg c2]at hr;omega
  ·by_cases c2:e'.1=u
   ·rw[if_neg c1,if_pos c2]at hr;omega
   ·rw[if_neg c1,if_neg c2]at h;simp only[List.cons.injEq]at h;obtain⟨h1,h2,h3,h4⟩:=h;have Nu:e.1=e'.1:=by omega
    have TA:e.2=e'.2:=by omega
    refine key (Prod.ext Nu TA) ?_ ?_
    ·rw[← Nu]at h2;omega
    ·rw[← Nu,← TA]at h4;exact h4
theorem zF{l m:List Edge}(hl:oe l)(hm:oe m)(h:jt l=jt m):l=m:=by
 have h1:=CA (fun x hx=>by have:=sY hl.edgesB hl.len x hx;omega) (fun x hx=>by have:=sY hm.edgesB hm.len x hx;omega) h;simp only[vF,List.cons.injEq]at h1;have z:∀ {l:List Edge},oe l->il (-1) l=0:=fun {l} h=>vR fun e he=>by
  have:=h.right e (List.mem_of_head? he);omega
 exact zE (u:=-1) (v:=0) (by omega) hl.rise hm.rise (fun e he=>by have:=hl.right e he;omega) (fun e he=>by have:=hm.right e he;omega)
  (fun e he=>by have:=hl.right e he;omega) (fun e he=>by have:=hm.right e he;omega) (by rw[z hl,z hm]) h1.2
theorem Fl(u v:Int)(l:List Edge):l.length<=(dR u v l).length:=by
 induction l generalizing u v with
 | nil=>simp
 | cons e l ih =>
  rw[dR];split
  ·have:=ih u e.2;simp;omega
  ·have:=ih e.1 e.2;simp;omega
theorem Fm(l:List Edge):l.length<=(jt l).length:=by
 have h1:=Dt (vF l);have h2:=Fl (-1) 0 l;unfold jt;simp only[vF,List.length_cons]at *;omega
def blen(v:Nat):Nat:=if v=0 then 0 else 1+blen (v / 2)
termination_by v
decreasing_by omega
theorem u7{v:Nat}(h:0<v):blen v=1+blen (v / 2):=by rw[blen,if_neg (by omega)]
theorem lr:blen 0=0:=by rw[blen,if_pos rfl]
theorem gj(v:Nat):v<2^blen v/\(0<v->2^(blen v-1)<=v/\0<blen v):=by
 induction v using Nat.strongRecOn with
 | _ v ih =>
  by_cases h:v=0
  ·subst h;rw[lr];simp
  ·rw[u7 (by omega)];obtain⟨h1,h2⟩:=ih (v / 2) (by omega);refine⟨by rw[Nat.add_comm,Nat.pow_succ];omega,fun _=>⟨?_,by omega⟩⟩;rw[Nat.add_sub_cancel_left];by_cases h0:0<v / 2
   ·obtain⟨k1,k2⟩:=h2 h0;obtain⟨q,hq⟩:∃ q,blen (v / 2)=q+1:=⟨blen (v / 2)-1,by omega⟩;rw[hq,Nat.add_sub_cancel]at k1;rw[hq,Nat.pow_succ];omega
   ·have:v / 2=0:=by omega
    rw[this,lr];omega
theorem ku{v k:Nat}(h:v<2^k):blen v<=k:=by
 by_cases h0:0<v
 ·obtain⟨h1,h2⟩:=(gj v).2 h0;have:blen v-1<k:=(Nat.pow_lt_pow_iff_right (a:=2) (by omega)).1 (by omega);omega
 ·have:v=0:=by omega
  rw[this,lr];omega
def dW(v:Nat):List Bool:=List.replicate (blen v-1) false++cN (v:Int) (blen v)
theorem ji{v:Nat}(h:0<v):(dW v).length=2*(blen v-1)+1:=by
 have:=((gj v).2 h).2;unfold dW;rw[List.length_append,List.length_replicate,el];omega
theorem tD{v:Int}(h:0<=v):∀(n:Nat)(a:Int),(cN v n).foldl (fun v b=>2*v+fv b) a=a*2^n+v % 2^n
 | 0,a=>by simp[cN]
 | n+1,a=>by
  rw[cN,List.foldl_cons,tD h n];have hp:(0:Int)<2^n:=Int.pow_pos (by omega);have e:v % 2^(n+1)=v % 2^n+2^n*fv (eU v n):=by
   have h1:(2:Int)^(n+1)=2^n*2:=by rw[Int.pow_succ]
   have hq:=Int.emod_add_mul_ediv (v / 2^n) 2;have hv:=Int.emod_add_mul_ediv v (2^n);have Ie:=Int.emod_nonneg v (show(2:Int)^n≠0 by omega);have Jq:=Int.emod_lt_of_pos v hp;have hb:fv (eU v n)=v / 2^n % 2:=by
    unfold fv eU;have h2:=Int.emod_nonneg (v / 2^n) (show(2:Int)≠0 by omega);have h3:=Int.emod_lt_of_pos (v / 2^n) (show(0:Int)<2 by omega);by_cases h4:v / 2^n % 2=1
    ·simp[h4]
    ·have h5:v / 2^n % 2=0:=by omega
     simp[h5]
   have GD:=fO (eU v n);have hs:v=(v % 2^n+2^n*fv (eU v n))+2^n*2*(v / 2^n / 2):=by
    rw[hb,Int.mul_assoc,Int.add_assoc,← Int.mul_add,hq,hv]
   rw[h1]
   conv=>lhs;rw[hs]
   rw[Int.add_mul_emod_self_left];refine Int.emod_eq_of_lt ?_ ?_
   ·have:0<=2^n*fv (eU v n):=Int.mul_nonneg (Int.le_of_lt hp) GD.1;omega
   ·have:2^n*fv (eU v n)<=2^n*1:=Int.mul_le_mul_of_nonneg_left GD.2 (Int.le_of_lt hp);omega
  rw[e];have h6:(2*a+fv (eU v n))*2^n=a*2^(n+1)+2^n*fv (eU v n):=by
   rw[Int.add_mul,Int.pow_succ,Int.mul_comm (fv (eU v n)),Int.mul_comm 2 a,Int.mul_assoc a 2,Int.mul_comm 2 (2^n)]
  rw[h6];omega
theorem Ei{v:Nat}(h:0<v):eU (v:Int) (blen v-1)=true:=by
 obtain⟨h1,h2⟩:=(gj v).2 h;have h3:=(gj v).1;obtain⟨q,hq⟩:∃ q,blen v=q+1:=⟨blen v-1,by omega⟩;rw[hq]at h1 h3 ⊢;rw[Nat.add_sub_cancel]at h1 ⊢;rw[Nat.pow_succ]at h3;have:v / 2^q=1:=by
  apply Nat.div_eq_of_lt_le <;>omega
 unfold eU;rw[show(2:Int)^q=((2^q:Nat):Int) by simp,show((v:Int) / ((2^q:Nat):Int))=((v / 2^q:Nat):Int) by simp,this];rfl
theorem zx{v:Nat}(h:0<v):cN (v:Int) (blen v)=true ::cN (v:Int) (blen v-1):=by
 obtain⟨q,hq⟩:∃ q,blen v=q+1:=⟨blen v-1,by have:=((gj v).2 h).2;omega⟩;have:=Ei h;rw[hq,Nat.add_sub_cancel]at *;rw[cN,this]
def rf(bs:List Bool):Nat:=(bs.takeWhile fun b=>!b).length
theorem Ew(k:Nat)(r:List Bool):rf (List.replicate k false++true ::r)=k:=by
 induction k with
 | zero=>simp[rf]
 | succ k ih =>
  unfold rf at ih ⊢;rw[List.replicate_succ,List.cons_append,List.takeWhile_cons];simp[ih]
theorem FF{bs:List Bool}{z:Nat}(h:∀ i,i<z->bs[i]?=some false)(h1:bs[z]?≠some false):rf bs=z:=by
 induction z generalizing bs with
 | zero =>
  cases bs with
  | nil=>rfl
  | cons b bs=>cases b <;>simp_all [rf]
 | succ z ih =>
  cases bs with
  | nil=>have:=h 0 (by omega);simp at this
  | cons b bs =>
   have h0:=h 0 (by omega);simp at h0;subst h0;have:=ih (bs:=bs) (fun i hi=>by simpa using h (i+1) (by omega)) (by simpa using h1);unfold rf at this ⊢;rw[List.takeWhile_cons];simp[this]
def qM(bs:List Bool):Option (Int×Nat) :=
 if rf bs<64/\2*rf bs+1<=bs.length then some (2^rf bs+kb ((bs.drop (rf bs+1)).take (rf bs)),2*rf bs+1) else none
theorem BT{v:Nat}(h:0<v)(rest:List Bool):dW v++rest=List.replicate (blen v-1) false++true ::(cN (v:Int) (blen v-1)++rest):=by
 unfold dW;rw[zx h,List.append_assoc,List.cons_append]
theorem uF{v:Nat}(h:0<v)(Qv:v<2^64)(rest:List Bool):qM (dW v++rest)=some ((v:Int),(dW v).length):=by
 have hz:rf (dW v++rest)=blen v-1:=by rw[BT h,Ew]
 have hl:=ji h;have hb:=ku Qv;obtain⟨h1,h2⟩:=(gj v).2 h;have h3:=(gj v).1;unfold qM;rw[hz,if_pos ⟨by omega,by rw[List.length_append,hl];omega⟩,hl];have hd:((dW v++rest).drop (blen v-1+1)).take (blen v-1)=cN (v:Int) (blen v-1):=by
  rw[BT h,← List.drop_drop,List.drop_left' (by simp),List.drop_succ_cons,List.drop_zero,List.take_left' (el _ _)]
 rw[hd];unfold kb;rw[tD (by omega)];obtain⟨q,hq⟩:∃ q,blen v=q+1:=⟨blen v-1,by omega⟩;rw[hq]at h1 h3 ⊢;rw[Nat.add_sub_cancel]at h1 ⊢;rw[Nat.pow_succ]at h3;have e:(v:Int) % 2^q=(v:Int)-2^q:=by
  have e1:((2^q:Nat):Int)=2^q:=by simp
  rw[← e1,show(v:Int)=((v-2^q:Nat):Int)+((2^q:Nat):Int) by omega,Int.add_emod_right,Int.emod_eq_of_lt (by omega) (by omega)];omega
 rw[e];congr 2;omega
theorem uG{u v:Nat}{s t:List Bool}(hu:0<u/\u<2^64)(hv:0<v/\v<2^64)(h:dW u++s=dW v++t):u=v/\s=t:=by
 have h1:=uF hu.1 hu.2 s;have h2:=uF hv.1 hv.2 t;rw[h,h2]at h1;simp only[Option.some.injEq,Prod.mk.injEq]at h1;have e:u=v:=by omega
 subst e;exact⟨rfl,List.append_cancel_left h⟩
theorem Fb{bs:List Bool}{v:Int}{n:Nat}(h:qM bs=some (v,n)):1<=v/\v<2^64/\0<n/\n<=bs.length/\n<=127:=by
 unfold qM at h;split at h
 ·rename_i hz;simp only[Option.some.injEq,Prod.mk.injEq]at h;obtain⟨h1,h2⟩:=h;have hv:=tB ((bs.drop (rf bs+1)).take (rf bs));have hl:((bs.drop (rf bs+1)).take (rf bs)).length=rf bs:=by rw[List.length_take,List.length_drop];omega
  rw[hl]at hv;have hp:(0:Int)<2^rf bs:=Int.pow_pos (by omega);have hq:((2:Int))^rf bs<=2^63:=by
   have:=Nat.pow_le_pow_right (n:=2) (by omega) (show rf bs<=63 by omega);have e1:((2^rf bs:Nat):Int)=2^rf bs:=by simp
   omega
  omega
 ·cases h
def gQ(t0:Int)(p:Option aR)(e:aR):Nat:=(e.t-(match p with | some q=>q.t | none=>t0)).toNat+1
def jx(p:Option aR)(e:aR):Nat:=match p with
 | some q=>if e.t=q.t then(e.u-q.u).toNat+1 else e.u.toNat+1
 | none=>e.u.toNat+1
def jk(p:Option aR)(e:aR):Nat:=match p with
 | some q=>if e.t=q.t/\e.u=q.u then(e.v-q.v).toNat else(e.v-e.u).toNat
 | none=>(e.v-e.u).toNat
def xG(t0:Int)(p:Option aR)(e:aR):List Bool:=dW (gQ t0 p e)++(e.add ::(dW (jx p e)++dW (jk p e)))
def dV(t0:Int):Option aR->List aR->List Bool
 | _,[]=>[]
 | p,e ::l=>xG t0 p e++dV t0 (some e) l
def eP(t0:Int)(l:List aR):List Int:=dS (dV t0 none l)
def nC(l:List aR):Prop:=∀ e∈l,((0<=e.u/\e.u<=4294967295)/\0<=e.v/\e.v<=4294967295)/\-9223372036854775808<=e.t/\e.t<=9223372036854775807
def Bp(t0:Int)(p:Option aR)(e:aR):Prop:=(0<=e.t/\e.t<=4611686018427387903)/\(0<=e.u/\e.u<e.v/\e.v<=4294967295)/\(match p with | none=>e.t=t0 | some q=>bP q e=true)
def eg(t0:Int):Option aR->List aR->Prop
 | _,[]=>True
 | p,e ::l=>Bp t0 p e/\eg t0 (some e) l
def kC(t0:Int):Option aR->List aR->Bool
 | _,[]=>true
 | p,e ::l=>(decide (0<=e.t/\e.t<=4611686018427387903/\e.u<e.v) && (match p with | none=>decide (e.t=t0) | some q=>bP q e)) && kC t0 (some e) l
theorem k8{t0:Int}:∀ {l:List aR} {p:Option aR},nC l->(kC t0 p l=true↔eg t0 p l)
 | [],p,_=>by simp[kC,eg]
 | e ::l,p,h=>by
  have he:=h e (by simp);have ih:=k8 (t0:=t0) (l:=l) (p:=some e) fun a ha=>h a (by simp[ha]);unfold kC eg;rw[Bool.and_eq_true,ih,Bool.and_eq_true,decide_eq_true_eq];unfold Bp;constructor
  ·rintro⟨⟨h1,h2⟩,h3⟩;refine⟨⟨by omega,by omega,?_⟩,h3⟩;cases p with
   | none=>simpa using h2
   | some q=>exact h2
  ·rintro⟨⟨h1,h2,h4⟩,h3⟩;refine⟨⟨by omega,?_⟩,h3⟩;cases p with
   | none=>simpa using h4
   | some q=>exact h4
theorem Bp.nums{t0:Int}{p:Option aR}{e:aR}(h:Bp t0 p e)(hp:∀ q,p=some q->0<=q.t/\0<=q.u/\0<=q.v):gQ t0 p e<=2^62/\(0<jx p e/\jx p e<=2^32)/\0<jk p e/\jk p e<=2^32:=by
 obtain⟨h1,h2,h3⟩:=h;cases p with
 | none =>
  simp only at h3;unfold gQ jx jk;simp only;omega
 | some q =>
  have hq:=hp q rfl;simp only[eo]at h3;unfold gQ jx jk;simp only;refine⟨by omega,by split <;>omega,?_⟩;split <;>omega
theorem Bp.inj{t0:Int}{p:Option aR}{e e':aR}(h:Bp t0 p e)(h':Bp t0 p e')(h1:gQ t0 p e=gQ t0 p e')(h2:jx p e=jx p e')(h3:jk p e=jk p e')(h4:e.add=e'.add):e=e':=by
 obtain⟨a1,a2,a3⟩:=h;obtain⟨b1,b2,b3⟩:=h';obtain⟨t,u,v,ad⟩:=e;obtain⟨t',u',v',ad'⟩:=e';simp only at *;subst h4;cases p with
 | none =>
  simp only[gQ,jx,jk]at *;have:t=t':=by omega
  have:u=u':=by omega
  have:v=v':=by omega
  simp[*]
 | some q =>
  simp only[gQ,jx,jk,eo]at *;have e1:t=t':=by omega
  subst e1;by_cases c:t=q.t
  ·simp only[c,if_true,true_and]at *;have e2:u=u':=by omega
   subst e2;have e3:v=v':=by split at h3 <;>omega
   simp[*]
  ·simp only[c,if_false,false_and]at *;have e2:u=u':=by omega
   subst e2;have e3:v=v':=by omega
   simp[*]
def ju(p:Option aR):Prop:=∀ q,p=some q->0<=q.t/\0<=q.u/\0<=q.v
theorem Bp.prev{t0:Int}{p:Option aR}{e:aR}(h:Bp t0 p e):ju (some e):=by
 intro q hq;cases hq;have:=h.1;have:=h.2.1;omega
theorem BX{t0:Int}{p:Option aR}{e e':aR}{s s':List Bool}(hp:ju p)(h:Bp t0 p e)(h':Bp t0 p e')(he:xG t0 p e++s=xG t0 p e'++s'):e=e'/\s=s':=by
 have n1:=h.nums hp;have n2:=h'.nums hp;unfold xG at he;simp only[List.append_assoc,List.cons_append]at he;obtain⟨g1,g2⟩:=uG ⟨by unfold gQ;omega,by omega⟩ ⟨by unfold gQ;omega,by omega⟩ he;simp only[List.cons.injEq]at g2;obtain⟨g3,g4⟩:=g2;obtain⟨g5,g6⟩:=uG ⟨n1.2.1.1,by omega⟩ ⟨n2.2.1.1,by omega⟩ g4;obtain⟨g7,g8⟩:=uG ⟨n1.2.2.1,by omega⟩ ⟨n2.2.2.1,by omega⟩ g6;exact⟨h.inj h' g1 g5 g7 g3,g8⟩
theorem DO{t0:Int}{p:Option aR}{e:aR}:true∈xG t0 p e:=by
 unfold xG dW;rw[zx (by unfold gQ;omega)];simp
theorem ww{t0:Int}:∀ {l l':List aR} {p:Option aR} {s s':List Bool},ju p->eg t0 p l->eg t0 p l'->l.length=l'.length->dV t0 p l++s=dV t0 p l'++s'->l=l'/\s=s'
 | [],[],p,s,s',_,_,_,_,h=>⟨rfl,h⟩
 | [],_ ::_,p,s,s',_,_,_,h,_=>by simp at h
 | _ ::_,[],p,s,s',_,_,_,h,_=>by simp at h
 | e ::l,e' ::l',p,s,s',hp,h,h',hl,he=>by
  rw[dV,dV,List.append_assoc,List.append_assoc]at he;obtain⟨e1,e2⟩:=BX hp h.1 h'.1 he;subst e1;obtain⟨e3,e4⟩:=ww h.1.prev h.2 h'.2 (by simpa using hl) e2;exact⟨by rw[e3],e4⟩
theorem pt{t0:Int}:∀ {l l':List aR} {p:Option aR} {k:Nat} {s:List Bool},ju p->eg t0 p l->eg t0 p l'->l.length<l'.length->dV t0 p l++List.replicate k false≠dV t0 p l'++s
 | [],[],p,k,s,_,_,_,h,_=>by simp at h
 | [],e ::l',p,k,s,_,_,_,_,h=>by
  rw[dV,dV,List.nil_append,List.append_assoc]at h;have:true∈List.replicate k false:=by rw[h];simp[DO]
  simp at this
 | _ ::_,[],p,k,s,_,_,_,h,_=>by simp at h
 | e ::l,e' ::l',p,k,s,hp,h,h',hl,he=>by
  rw[dV,dV,List.append_assoc,List.append_assoc]at he;obtain⟨e1,e2⟩:=BX hp h.1 h'.1 he;subst e1;exact pt h.1.prev h.2 h'.2 (by simpa using hl) e2
theorem uQ{t0:Int}{l l':List aR}(h:eg t0 none l)(h':eg t0 none l')(he:eP t0 l=eP t0 l'):l=l':=by
 have h1:=congrArg aZ he;unfold eP at h1;rw[gy,gy]at h1;have hn:ju none:=fun q hq=>by cases hq
 rcases Nat.lt_trichotomy l.length l'.length with k | k | k
 ·exact absurd h1 (pt hn h h' k)
 ·exact(ww hn h h' k h1).1
 ·exact absurd h1.symm (pt hn h' h k)
theorem nd{v:Nat}(h:0<v)(Qv:v<=2^63):(dW v).length<=127:=by
 rw[ji h];have:=ku (v:=v) (k:=64) (by omega);omega
theorem xF{t0:Int}{p:Option aR}{e:aR}(hp:ju p)(h:Bp t0 p e):(xG t0 p e).length<=400/\4<=(xG t0 p e).length:=by
 have n:=h.nums hp;have g1:=nd (v:=gQ t0 p e) (by unfold gQ;omega) (by omega);have g2:=nd (v:=jx p e) n.2.1.1 (by omega);have g3:=nd (v:=jk p e) n.2.2.1 (by omega);have k1:=ji (v:=gQ t0 p e) (by unfold gQ;omega);have k2:=ji (v:=jx p e) n.2.1.1;have k3:=ji (v:=jk p e) n.2.2.1;unfold xG;simp only[List.length_append,List.length_cons];omega
theorem jL{t0:Int}:∀ {l:List aR} {p:Option aR},ju p->eg t0 p l->(dV t0 p l).length<=400*l.length/\4*l.length<=(dV t0 p l).length
 | [],p,_,_=>by simp[dV]
 | e ::l,p,hp,h=>by
  have h1:=xF hp h.1;have h2:=jL h.1.prev h.2;rw[dV,List.length_append,List.length_cons];omega
theorem iV{t0:Int}{l:List aR}(h:eg t0 none l):(eP t0 l).length<=50*l.length+1/\l.length<=2*(eP t0 l).length:=by
 have:=jL (fun q hq=>by cases hq) h;unfold eP;rw[bN];omega
theorem dv(t0:Int)(l:List aR):aW (eP t0 l):=rJ _
theorem mi{t0:Int}:∀ {l m:List aR} {p:Option aR},dV t0 p (l++m)=dV t0 p l++dV t0 (ej l p) m
 | [],m,p=>by simp[dV,ej]
 | e ::l,m,p=>by
  rw[List.cons_append,dV,dV,mi,List.append_assoc];rfl
theorem eg.append{t0:Int}:∀ {l m:List aR} {p:Option aR},eg t0 p (l++m)↔eg t0 p l/\eg t0 (ej l p) m
 | [],m,p=>by simp[eg,ej]
 | e ::l,m,p=>by
  rw[List.cons_append,eg,eg,eg.append];have:ej (e ::l) p=ej l (some e):=rfl;rw[this,and_assoc]
theorem gm(l:List aR)(e:aR)(p:Option aR):ej (l++[e]) p=some e:=by simp[ej]
def xr(d:Int)(e:aR):aR:=⟨e.t+d,e.u,e.v,e.add⟩
theorem lx.delOk{N t0:Int}(hN:N<=4294967296):∀ {l:List aR} {p:Option aR} {now:List Edge},lx N l p now->(∀ e∈l,0<=e.u)->(p=none->∀ e,l.head?=some e->e.t=t0)->eg t0 p l
 | [],p,now,_,_,_=>trivial
 | e ::l,p,now,h,hu,h0=>by
  obtain⟨h1,h2,h3,x,_,h4⟩:=h;refine⟨⟨h1,⟨hu e (by simp),h2.1,by omega⟩,?_⟩,h4.delOk hN (fun a ha=>hu a (by simp[ha])) (fun hq=>by cases hq)⟩;cases p with
  | none=>exact h0 rfl e rfl
  | some q=>exact h3 q rfl
def fi:List Edge->List aR->Bool
 | _,[]=>true
 | now,e ::l=>match cA now e with
  | none=>false
  | some x=>fi x l
theorem mh:∀ {l m:List aR} {now:List Edge},fi now (l++m)=(fi now l && fi (dt l now) m)
 | [],m,now=>by simp[fi,dt]
 | e ::l,m,now=>by
  rw[List.cons_append,fi,fi,mg];cases cA now e with
  | none=>simp
  | some x=>simp[mh]
theorem lx.fits{N:Int}:∀ {l:List aR} {p:Option aR} {now:List Edge},lx N l p now->fi now l=true
 | [],p,now,_=>rfl
 | e ::l,p,now,h=>by
  obtain⟨h1,h2,h3,x,hx,h4⟩:=h;rw[fi,hx];exact h4.fits
def nQ(l:List aR):Int:=match l with
 | []=>0
 | e ::_=>e.t
theorem eg.t0{t0:Int}{l:List aR}(h:eg t0 none l)(Gh:l≠[]):nQ l=t0:=by
 cases l with
 | nil=>exact absurd rfl Gh
 | cons e l=>exact h.1.2.2
def fy(t0:Int)(key:List Edge)(l:List aR):List Int:=cJ (dj (jt key)).length++(dj (jt key)++dj (eP t0 l))
structure wI(t0:Int)(key:List Edge)(l:List aR):Prop where
 adj:oe key
 ne:l≠[]
 del:eg t0 none l
 fit:fi key l=true
def gu(key:List Edge)(l:List aR):Int:=if ny key=false∨l=[] then 23 else if kC (nQ l) none l=false then 23 else if fi key l=false then 25 else 0
theorem wE{key:List Edge}{l:List aR}(hk:fE key)(Nr:key.length<=2^30)(hl:nC l):gu key l=0↔wI (nQ l) key l:=by
 unfold gu;have h1:=qg hk Nr;have h2:=k8 (t0:=nQ l) (p:=none) hl;constructor
 ·intro h;split at h
  ·omega
  ·rename_i a;split at h
   ·omega
   ·rename_i b;split at h
    ·omega
    ·rename_i c;simp only[not_or,Bool.not_eq_false]at a b c;exact⟨h1.1 a.1,a.2,h2.1 b,c⟩
 ·rintro⟨a,b,c,d⟩;rw[if_neg (by rw[h1.2 a];simp[b]),if_neg (by rw[h2.2 c];simp),if_neg (by rw[d];simp)]
theorem pg:∀(l:List Int)(s nx:Nat),(∀ v∈l,0<=v/\v<=15)->s+l.length<=256->(dI l s nx).length<=3*l.length
 | [],s,nx,_,_=>by simp[dI]
 | x ::l,s,nx,h,hs=>by
  have hx:=h x (by simp);simp only[List.length_cons]at hs;have ih1:=pg l (s+1) (s+1) (fun v hv=>h v (by simp[hv])) (by omega);have ih2:=pg l (s+1) nx (fun v hv=>h v (by simp[hv])) (by omega);rw[dI];split
  ·have a1:=t9 (s-nx) 2 (by omega) (by omega);have a2:=t9 x.toNat 1 (by omega) (by omega);simp only[List.length_append,List.length_cons];omega
  ·simp only[List.length_cons];omega
theorem gK{b:List Int}(hb:aW b)(hl:b.length<2^60):(dj b).length<=2*b.length+800:=by
 unfold dj;split
 ·have:=cZ (v:=0) (by omega);omega
 ·rename_i Gh;obtain⟨l1,r1,s1,v1⟩:=fo hb Gh;have h1:=cZ (v:=b.length) (by omega);have hp:=ki (lw b);have h2:=cZ (v:=de (lw b)) (by omega);have h3:=pg (lw b) 0 0 v1 (by omega);have h4:=ni r1 (eZ b);have h5:=mM r1 (eZ b);have h6:(eZ b).length=b.length:=by simp
  simp only[List.length_append,bN];omega
theorem mr(t0:Int)(key:List Edge)(l:List aR):aW (fy t0 key l):=by
 intro y hy;unfold fy at hy;rcases List.mem_append.1 hy with h | h
 ·exact gl _ y h
 rcases List.mem_append.1 h with h | h
 ·exact oG _ y h
 ·exact oG _ y h
theorem uZ{t0:Int}{key:List Edge}{l:List aR}(h:wI t0 key l)(hk:key.length<=2^20)(hl:l.length<=2^20):(fy t0 key l).length<=60*key.length+100*l.length+1640:=by
 have h1:=nz h.adj.edgesB h.adj.len;have h2:=(iV h.del).1;have h3:=gK (d8 key) (by omega);have h4:=gK (dv t0 l) (by omega);have h5:=cZ (v:=(dj (jt key)).length) (by omega);unfold fy;simp only[List.length_append];omega
theorem Bh{t0 t1:Int}{key key':List Edge}{l l':List aR}{s s':List Int}(h:wI t0 key l)(h':wI t1 key' l')(hl:l.length<=2^50)(Ju:l'.length<=2^50)(he:fy t0 key l++s=fy t1 key' l'++s'):key=key'/\eP t0 l=eP t1 l'/\s=s':=by
 have b1:=d8 key;have b2:=d8 key';have c1:=nz h.adj.edgesB h.adj.len;have c2:=nz h'.adj.edgesB h'.adj.len;have m1:=h.adj.len;have m2:=h'.adj.len;have d1:=(iV h.del).1;have d2:=(iV h'.del).1;have e1:=gK b1 (by omega);have e2:=gK b2 (by omega);unfold fy at he;simp only[List.append_assoc]at he;obtain⟨f1,f2⟩:=jT (by omega) (by omega) he;have g1:=uc b1 b2 (by omega) (by omega) f2;have g2:=zF h.adj h'.adj g1;subst g2;have f3:=List.append_cancel_left f2;have g3:=uc (dv _ _) (dv _ _) (by omega) (by omega) f3;rw[g3]at f3;exact⟨rfl,g3,List.append_cancel_left f3⟩
structure sI(x:List Int)(n t0 count:Int)(key:List Edge)(l:List aR):Prop where
 ok:wI t0 key l
 keyV:∀ e∈key,e.2<n
 evtV:∀ e∈l,e.v<n
 len:(l.length:Int)=count
 eq:x=fy t0 key l
theorem sI.uniq{x:List Int}{n t0 count n' t0' count':Int}{key key':List Edge}{l l':List aR}(h:sI x n t0 count key l)(h':sI x n' t0' count' key' l')(hl:l.length<=2^50)(Ju:l'.length<=2^50):key=key'/\eP t0 l=eP t0' l':=by
 have:=Bh (s:=[]) (s':=[]) h.ok h'.ok hl Ju (by rw[← h.eq,← h'.eq]);exact⟨this.1,this.2.1⟩
theorem Eh{x a d:List Int}(ha:aW a)(hd:aW d)(h:x=cJ (dj a).length++(dj a++dj d)):a.length<=8*x.length/\d.length<=8*x.length:=by
 have h1:=nK ha rfl;have h2:=nK hd rfl;rw[h];simp only[List.length_append];omega
end Go.Proofs.YtlieaecnllkefaaGreat

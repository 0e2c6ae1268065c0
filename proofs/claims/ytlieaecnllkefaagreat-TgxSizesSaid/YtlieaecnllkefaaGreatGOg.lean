/- Own texts, packed: O1, O2, O3. -/
import Derived.Test.YtlieaecnllkefaaGreatGNg
import Derived.Test.YtlieaecnllkefaaGreatGIg
namespace Go.Proofs.YtlieaecnllkefaaGreat
open Go Go.V Go.RowKit
set_option linter.unusedVariables false
set_option linter.unusedSimpArgs false
def yu(u:Int)(l:List Edge):Nat:=(l.takeWhile fun x=>decide (x.1=u)).length
def kf(u v:Int):List Edge->List Nat
  | []=>[]
  | e ::r=>if e.1=u then(e.2-v-1).toNat ::kf u e.2 r
      else(e.1-u-1).toNat ::(1+yu e.1 r) ::(e.2-e.1-1).toNat ::kf e.1 e.2 r
def rf(u:Int):List Edge->Nat
 | []=>0
 | e ::r=>if e.1=u then rf u r else 1+rf e.1 r
def qot(l:List Edge):List Nat:=rf (-1) l ::kf (-1) 0 l
def qdx(l:List Edge):List Int:=cv (qot l)
def qfx(l:List Edge):Bool:=gj l && l.all fun e=>decide (e.1<e.2)
def jp(l:List Edge):Prop:=∀ e∈l,(0<=e.1/\e.1<=4294967295)/\0<=e.2/\e.2<=4294967295
structure qf2(l:List Edge):Prop where
 rise:ri l
 right:∀ e∈l,0<=e.1/\e.1<e.2/\e.2<=4294967295
 len:l.length<=2^30
theorem y8{l:List Edge}(hb:jp l)(hl:l.length<=2^30):qfx l=true↔qf2 l:=by
 unfold qfx
 rw[Bool.and_eq_true,ja,List.all_eq_true]
 constructor
 ·rintro⟨h1,h2⟩
  refine⟨h1,fun e he=>?_,hl⟩
  have:=h2 e he
  simp only[decide_eq_true_eq]at this
  have:=hb e he
  omega
 ·rintro⟨h1,h2,_⟩
  exact⟨h1,fun e he=>by have:=h2 e he;simp;omega⟩
theorem qf2.edgesB{l:List Edge}(h:qf2 l):jp l:=fun e he=>by have:=h.right e he;omega
theorem fe(a:Nat)(l:List Nat):cv (a ::l)=fk a++cv l:=by simp[cv]
theorem qeq:cv []=[]:=rfl
theorem ov(a b:List Nat):cv (a++b)=cv a++cv b:=by simp[cv]
theorem qga(l:List Nat):bf (cv l):=by
 intro y hy
 simp only[cv,List.mem_flatMap]at hy
 obtain⟨a,_,h⟩:=hy
 exact jb a y h
theorem qnw(l:List Nat):l.length<=(cv l).length:=by
 induction l with
 | nil=>simp
 | cons a l ih=>rw[fe,List.length_append,List.length_cons];have:=uq a;omega
theorem qln{a b:List Nat}(ha:∀ x∈a,x<2^64)(hb:∀ x∈b,x<2^64)(h:cv a=cv b):a=b:=by
 induction a generalizing b with
 | nil =>
  cases b with
  | nil=>rfl
  | cons y b =>
   rw[qeq,fe]at h
   have:=congrArg List.length h
   have hp:=uq y
   rw[List.length_append,List.length_nil]at this;omega
 | cons x a ih =>
  cases b with
  | nil =>
   rw[qeq,fe]at h
   have:=congrArg List.length h
   have hp:=uq x
   rw[List.length_append,List.length_nil]at this;omega
  | cons y b =>
   rw[fe,fe]at h
   obtain⟨e1,e2⟩:=m7 (ha x (by simp)) (hb y (by simp)) h
   rw[e1,ih (fun z hz=>ha z (by simp[hz])) (fun z hz=>hb z (by simp[hz])) e2]
theorem jh(u:Int)(e:Edge)(l:List Edge):yu u (e ::l)=if e.1=u then 1+yu u l else 0:=by
 unfold yu
 rw[List.takeWhile_cons]
 by_cases h:e.1=u
 ·simp[h];omega
 ·simp[h]
theorem qlg(u:Int)(l:List Edge):yu u l<=l.length:=by
 unfold yu
 exact(List.takeWhile_sublist _).length_le
theorem qeh{u:Int}{l:List Edge}(h:∀ e,l.head?=some e->e.1≠u):yu u l=0:=by
 cases l with
 | nil=>rfl
 | cons e l=>rw[jh,if_neg (h e rfl)]
theorem ql9(u:Int)(l:List Edge):rf u l<=l.length:=by
 induction l generalizing u with
 | nil=>simp[rf]
 | cons e l ih =>
  rw[rf]
  have h1:=ih u
  have h2:=ih e.1
  split <;>simp <;>omega
theorem qa3(u v:Int)(e:Edge)(r:List Edge)(h:e.1=u):kf u v (e ::r)=(e.2-v-1).toNat ::kf u e.2 r:=by rw[kf,if_pos h]
theorem qfy(u v:Int)(e:Edge)(r:List Edge)(h:e.1≠u):kf u v (e ::r)=(e.1-u-1).toNat ::yu e.1 (e ::r) ::kf e.1 e.1 (e ::r):=by
 rw[kf,if_neg h,jh,if_pos rfl,qa3 _ _ _ _ rfl]
theorem qiy(u v:Int)(l:List Edge):(kf u v l).length<=3*l.length:=by
 induction l generalizing u v with
 | nil=>simp[kf]
 | cons e l ih =>
  rw[kf]
  split
  ·have:=ih u e.2;simp;omega
  ·have:=ih e.1 e.2;simp;omega
theorem qne(u v:Int)(l:List Edge)(hu:-1<=u)(hv:0<=v)(h:jp l)(hl:l.length<=2^30):∀ x∈kf u v l,x<2^32:=by
 induction l generalizing u v with
 | nil=>simp[kf]
 | cons e l ih =>
  have he:=h e (by simp)
  have hr:jp l:=fun a ha=>h a (by simp[ha])
  simp only[List.length_cons]at hl
  intro x hx
  rw[kf]at hx
  split at hx
  ·rcases List.mem_cons.1 hx with rfl | hx
   ·omega
   ·exact ih u e.2 hu (by omega) hr (by omega) x hx
  ·rcases List.mem_cons.1 hx with rfl | hx
   ·omega
   rcases List.mem_cons.1 hx with rfl | hx
   ·have:=qlg e.1 l;omega
   rcases List.mem_cons.1 hx with rfl | hx
   ·omega
   exact ih e.1 e.2 (by omega) (by omega) hr (by omega) x hx
theorem qdw{l:List Edge}(h:jp l)(hl:l.length<=2^30):∀ x∈qot l,x<2^32:=by
 intro x hx
 rcases List.mem_cons.1 hx with rfl | hx
 ·have:=ql9 (-1) l;omega
 ·exact qne _ _ l (by omega) (by omega) h hl x hx
theorem y9{l:List Edge}(h:jp l)(hl:l.length<=2^30):(qdx l).length<=30*l.length+10:=by
 have h1:=zz (l:=qot l) fun x hx=>by have:=qdw h hl x hx;omega
 have h2:=qiy (-1) 0 l
 unfold qdx
 simp only[qot,List.length_cons]at *
 omega
theorem ff(l:List Edge):bf (qdx l):=qga _
theorem qiz:∀ {l m:List Edge} {u v:Int},-1<=u->ri l->ri m->(∀ e∈l,0<=e.1/\e.1<e.2)->(∀ e∈m,0<=e.1/\e.1<e.2)->(∀ e∈l,u<e.1∨e.1=u/\v<e.2)->(∀ e∈m,u<e.1∨e.1=u/\v<e.2)->yu u l=yu u m->kf u v l=kf u v m->l=m
 | [],[],u,v,_,_,_,_,_,_,_,_,_=>rfl
 | [],e ::m,u,v,_,_,_,_,_,_,_,_,h=>by rw[kf,kf]at h;split at h <;>simp at h
 | e ::l,[],u,v,_,_,_,_,_,_,_,_,h=>by rw[kf,kf]at h;split at h <;>simp at h
 | e ::l,e' ::m,u,v,hu,hl,hm,rl,rm,bl,bm,hr,h=>by
  rw[jh,jh]at hr
  rw[kf,kf]at h
  have r1:=rl e (by simp)
  have r2:=rm e' (by simp)
  have b1:=bl e (by simp)
  have b2:=bm e' (by simp)
  have pl:=List.pairwise_cons.1 hl
  have pm:=List.pairwise_cons.1 hm
  have key:e=e'->yu e.1 l=yu e.1 m->kf e.1 e.2 l=kf e.1 e.2 m->e ::l=e' ::m:=by
   rintro rfl h1 h2
   rw[qiz (by omega) pl.2 pm.2 (fun a ha=>rl a (by simp[ha])) (fun a ha=>rm a (by simp[ha])) (fun a ha=>by have:=eg.1 (pl.1 a ha);omega) (fun a ha=>by have:=eg.1 (pm.1 a ha);omega) h1 h2]
  by_cases c1:e.1=u
  ·by_cases c2:e'.1=u
   ·rw[if_pos c1,if_pos c2]at h hr
    simp only[List.cons.injEq]at h
    have he:e=e':=Prod.ext (by omega) (by omega)
    refine key he (by rw[c1];omega) ?_
    rw[c1]
    have:e.2=e'.2:=by omega
    rw[this]at h ⊢
    exact h.2
   ·rw[if_pos c1,if_neg c2]at hr;omega
  ·by_cases c2:e'.1=u
   ·rw[if_neg c1,if_pos c2]at hr;omega
   ·rw[if_neg c1,if_neg c2]at h
    simp only[List.cons.injEq]at h
    obtain⟨h1,h2,h3,h4⟩:=h
    have he1:e.1=e'.1:=by omega
    have he2:e.2=e'.2:=by omega
    refine key (Prod.ext he1 he2) ?_ ?_
    ·rw[← he1]at h2;omega
    ·rw[← he1,← he2]at h4;exact h4
theorem qi0{l m:List Edge}(hl:qf2 l)(hm:qf2 m)(h:qdx l=qdx m):l=m:=by
 have h1:=qln (fun x hx=>by have:=qdw hl.edgesB hl.len x hx;omega) (fun x hx=>by have:=qdw hm.edgesB hm.len x hx;omega) h
 simp only[qot,List.cons.injEq]at h1
 have z:∀ {l:List Edge},qf2 l->yu (-1) l=0:=fun {l} h=>qeh fun e he=>by
  have:=h.right e (List.mem_of_head? he);omega
 exact qiz (u:=-1) (v:=0) (by omega) hl.rise hm.rise (fun e he=>by have:=hl.right e he;omega) (fun e he=>by have:=hm.right e he;omega)
  (fun e he=>by have:=hl.right e he;omega) (fun e he=>by have:=hm.right e he;omega) (by rw[z hl,z hm]) h1.2
theorem qqx(u v:Int)(l:List Edge):l.length<=(kf u v l).length:=by
 induction l generalizing u v with
 | nil=>simp
 | cons e l ih =>
  rw[kf]
  split
  ·have:=ih u e.2;simp;omega
  ·have:=ih e.1 e.2;simp;omega
theorem qqy(l:List Edge):l.length<=(qdx l).length:=by
 have h1:=qnw (qot l)
 have h2:=qqx (-1) 0 l
 unfold qdx
 simp only[qot,List.length_cons]at *
 omega
def blen(v:Nat):Nat:=if v=0 then 0 else 1+blen (v / 2)
termination_by v
decreasing_by omega
theorem qiw{v:Nat}(h:0<v):blen v=1+blen (v / 2):=by rw[blen,if_neg (by omega)]
theorem vm:blen 0=0:=by rw[blen,if_pos rfl]
theorem kz(v:Nat):v<2^blen v/\(0<v->2^(blen v-1)<=v/\0<blen v):=by
 induction v using Nat.strongRecOn with
 | _ v ih =>
  by_cases h:v=0
  ·subst h;rw[vm];simp
  ·rw[qiw (by omega)]
   obtain⟨h1,h2⟩:=ih (v / 2) (by omega)
   refine⟨by rw[Nat.add_comm,Nat.pow_succ];omega,fun _=>⟨?_,by omega⟩⟩
   rw[Nat.add_sub_cancel_left]
   by_cases h0:0<v / 2
   ·obtain⟨k1,k2⟩:=h2 h0
    obtain⟨q,hq⟩:∃ q,blen (v / 2)=q+1:=⟨blen (v / 2)-1,by omega⟩
    rw[hq,Nat.add_sub_cancel]at k1
    rw[hq,Nat.pow_succ];omega
   ·have:v / 2=0:=by omega
    rw[this,vm];omega
theorem xu{v k:Nat}(h:v<2^k):blen v<=k:=by
 by_cases h0:0<v
 ·obtain⟨h1,h2⟩:=(kz v).2 h0
  have:blen v-1<k:=(Nat.pow_lt_pow_iff_right (a:=2) (by omega)).1 (by omega)
  omega
 ·have:v=0:=by omega
  rw[this,vm];omega
def vr(v:Nat):List Bool:=List.replicate (blen v-1) false++dl (v:Int) (blen v)
theorem kr{v:Nat}(h:0<v):(vr v).length=2*(blen v-1)+1:=by
 have:=((kz v).2 h).2
 unfold vr
 rw[List.length_append,List.length_replicate,er];omega
theorem qbl{v:Int}(h:0<=v):∀(n:Nat)(a:Int),(dl v n).foldl (fun v b=>2*v+b2i b) a=a*2^n+v % 2^n
 | 0,a=>by simp[dl]
 | n+1,a=>by
  rw[dl,List.foldl_cons,qbl h n]
  have hp:(0:Int)<2^n:=Int.pow_pos (by omega)
  have e:v % 2^(n+1)=v % 2^n+2^n*b2i (rh v n):=by
   have h1:(2:Int)^(n+1)=2^n*2:=by rw[Int.pow_succ]
   have hq:=Int.emod_add_mul_ediv (v / 2^n) 2
   have hv:=Int.emod_add_mul_ediv v (2^n)
   have hr1:=Int.emod_nonneg v (show(2:Int)^n≠0 by omega)
   have hr2:=Int.emod_lt_of_pos v hp
   have hb:b2i (rh v n)=v / 2^n % 2:=by
    unfold b2i rh
    have h2:=Int.emod_nonneg (v / 2^n) (show(2:Int)≠0 by omega)
    have h3:=Int.emod_lt_of_pos (v / 2^n) (show(0:Int)<2 by omega)
    by_cases h4:v / 2^n % 2=1
    ·simp[h4]
    ·have h5:v / 2^n % 2=0:=by omega
     simp[h5]
   have hb2:=jn (rh v n)
   have hs:v=(v % 2^n+2^n*b2i (rh v n))+2^n*2*(v / 2^n / 2):=by
    rw[hb,Int.mul_assoc,Int.add_assoc,← Int.mul_add,hq,hv]
   rw[h1]
   conv=>lhs;rw[hs]
   rw[Int.add_mul_emod_self_left]
   refine Int.emod_eq_of_lt ?_ ?_
   ·have:0<=2^n*b2i (rh v n):=Int.mul_nonneg (Int.le_of_lt hp) hb2.1
    omega
   ·have:2^n*b2i (rh v n)<=2^n*1:=Int.mul_le_mul_of_nonneg_left hb2.2 (Int.le_of_lt hp)
    omega
  rw[e]
  have h6:(2*a+b2i (rh v n))*2^n=a*2^(n+1)+2^n*b2i (rh v n):=by
   rw[Int.add_mul,Int.pow_succ,Int.mul_comm (b2i (rh v n)),Int.mul_comm 2 a,Int.mul_assoc a 2,Int.mul_comm 2 (2^n)]
  rw[h6]
  omega
theorem qoq{v:Nat}(h:0<v):rh (v:Int) (blen v-1)=true:=by
 obtain⟨h1,h2⟩:=(kz v).2 h
 have h3:=(kz v).1
 obtain⟨q,hq⟩:∃ q,blen v=q+1:=⟨blen v-1,by omega⟩
 rw[hq]at h1 h3 ⊢
 rw[Nat.add_sub_cancel]at h1 ⊢
 rw[Nat.pow_succ]at h3
 have:v / 2^q=1:=by
  apply Nat.div_eq_of_lt_le <;>omega
 unfold rh
 rw[show(2:Int)^q=((2^q:Nat):Int) by simp,show((v:Int) / ((2^q:Nat):Int))=((v / 2^q:Nat):Int) by simp,this]
 rfl
theorem qix{v:Nat}(h:0<v):dl (v:Int) (blen v)=true ::dl (v:Int) (blen v-1):=by
 obtain⟨q,hq⟩:∃ q,blen v=q+1:=⟨blen v-1,by have:=((kz v).2 h).2;omega⟩
 have:=qoq h
 rw[hq,Nat.add_sub_cancel]at *
 rw[dl,this]
def zer(bs:List Bool):Nat:=(bs.takeWhile fun b=>!b).length
theorem qpf(k:Nat)(r:List Bool):zer (List.replicate k false++true ::r)=k:=by
 induction k with
 | zero=>simp[zer]
 | succ k ih =>
  unfold zer at ih ⊢
  rw[List.replicate_succ,List.cons_append,List.takeWhile_cons]
  simp[ih]
theorem zer_is{bs:List Bool}{z:Nat}(h:∀ i,i<z->bs[i]?=some false)(h1:bs[z]?≠some false):zer bs=z:=by
 induction z generalizing bs with
 | zero =>
  cases bs with
  | nil=>rfl
  | cons b bs=>cases b <;>simp_all [zer]
 | succ z ih =>
  cases bs with
  | nil=>have:=h 0 (by omega);simp at this
  | cons b bs =>
   have h0:=h 0 (by omega)
   simp at h0;subst h0
   have:=ih (bs:=bs) (fun i hi=>by simpa using h (i+1) (by omega)) (by simpa using h1)
   unfold zer at this ⊢
   rw[List.takeWhile_cons];simp[this]
def qj2(bs:List Bool):Option (Int×Nat) :=
 if zer bs<64/\2*zer bs+1<=bs.length then some (2^zer bs+uh ((bs.drop (zer bs+1)).take (zer bs)),2*zer bs+1) else none
theorem qmd{v:Nat}(h:0<v)(rest:List Bool):vr v++rest=List.replicate (blen v-1) false++true ::(dl (v:Int) (blen v-1)++rest):=by
 unfold vr
 rw[qix h,List.append_assoc,List.cons_append]
theorem qdp{v:Nat}(h:0<v)(h64:v<2^64)(rest:List Bool):qj2 (vr v++rest)=some ((v:Int),(vr v).length):=by
 have hz:zer (vr v++rest)=blen v-1:=by rw[qmd h,qpf]
 have hl:=kr h
 have hb:=xu h64
 obtain⟨h1,h2⟩:=(kz v).2 h
 have h3:=(kz v).1
 unfold qj2
 rw[hz,if_pos ⟨by omega,by rw[List.length_append,hl];omega⟩,hl]
 have hd:((vr v++rest).drop (blen v-1+1)).take (blen v-1)=dl (v:Int) (blen v-1):=by
  rw[qmd h,← List.drop_drop,List.drop_left' (by simp),List.drop_succ_cons,List.drop_zero,List.take_left' (er _ _)]
 rw[hd]
 unfold uh
 rw[qbl (by omega)]
 obtain⟨q,hq⟩:∃ q,blen v=q+1:=⟨blen v-1,by omega⟩
 rw[hq]at h1 h3 ⊢
 rw[Nat.add_sub_cancel]at h1 ⊢
 rw[Nat.pow_succ]at h3
 have e:(v:Int) % 2^q=(v:Int)-2^q:=by
  have e1:((2^q:Nat):Int)=2^q:=by simp
  rw[← e1,show(v:Int)=((v-2^q:Nat):Int)+((2^q:Nat):Int) by omega,Int.add_emod_right,Int.emod_eq_of_lt (by omega) (by omega)]
  omega
 rw[e]
 congr 2
 omega
theorem qdq{u v:Nat}{s t:List Bool}(hu:0<u/\u<2^64)(hv:0<v/\v<2^64)(h:vr u++s=vr v++t):u=v/\s=t:=by
 have h1:=qdp hu.1 hu.2 s
 have h2:=qdp hv.1 hv.2 t
 rw[h,h2]at h1
 simp only[Option.some.injEq,Prod.mk.injEq]at h1
 have e:u=v:=by omega
 subst e
 exact⟨rfl,List.append_cancel_left h⟩
theorem qqj{bs:List Bool}{v:Int}{n:Nat}(h:qj2 bs=some (v,n)):1<=v/\v<2^64/\0<n/\n<=bs.length/\n<=127:=by
 unfold qj2 at h
 split at h
 ·rename_i hz
  simp only[Option.some.injEq,Prod.mk.injEq]at h
  obtain⟨h1,h2⟩:=h
  have hv:=qcv ((bs.drop (zer bs+1)).take (zer bs))
  have hl:((bs.drop (zer bs+1)).take (zer bs)).length=zer bs:=by rw[List.length_take,List.length_drop];omega
  rw[hl]at hv
  have hp:(0:Int)<2^zer bs:=Int.pow_pos (by omega)
  have hq:((2:Int))^zer bs<=2^63:=by
   have:=Nat.pow_le_pow_right (n:=2) (by omega) (show zer bs<=63 by omega)
   have e1:((2^zer bs:Nat):Int)=2^zer bs:=by simp
   omega
  omega
 ·cases h
def ni(t0:Int)(p:Option Evt)(e:Evt):Nat:=(e.t-(match p with | some q=>q.t | none=>t0)).toNat+1
def td(p:Option Evt)(e:Evt):Nat:=match p with
 | some q=>if e.t=q.t then(e.u-q.u).toNat+1 else e.u.toNat+1
 | none=>e.u.toNat+1
def rg(p:Option Evt)(e:Evt):Nat:=match p with
 | some q=>if e.t=q.t/\e.u=q.u then(e.v-q.v).toNat else(e.v-e.u).toNat
 | none=>(e.v-e.u).toNat
def evB(t0:Int)(p:Option Evt)(e:Evt):List Bool:=vr (ni t0 p e)++(e.add ::(vr (td p e)++vr (rg p e)))
def ic(t0:Int):Option Evt->List Evt->List Bool
 | _,[]=>[]
 | p,e ::l=>evB t0 p e++ic t0 (some e) l
def iv(t0:Int)(l:List Evt):List Int:=fz (ic t0 none l)
def qa4(l:List Evt):Prop:=∀ e∈l,((0<=e.u/\e.u<=4294967295)/\0<=e.v/\e.v<=4294967295)/\-9223372036854775808<=e.t/\e.t<=9223372036854775807
def OkE(t0:Int)(p:Option Evt)(e:Evt):Prop:=(0<=e.t/\e.t<=4611686018427387903)/\(0<=e.u/\e.u<e.v/\e.v<=4294967295)/\(match p with | none=>e.t=t0 | some q=>br q e=true)
def ig(t0:Int):Option Evt->List Evt->Prop
 | _,[]=>True
 | p,e ::l=>OkE t0 p e/\ig t0 (some e) l
def qci(t0:Int):Option Evt->List Evt->Bool
 | _,[]=>true
 | p,e ::l=>(decide (0<=e.t/\e.t<=4611686018427387903/\e.u<e.v) && (match p with | none=>decide (e.t=t0) | some q=>br q e)) && qci t0 (some e) l
theorem vg{t0:Int}:∀ {l:List Evt} {p:Option Evt},qa4 l->(qci t0 p l=true↔ig t0 p l)
 | [],p,_=>by simp[qci,ig]
 | e ::l,p,h=>by
  have he:=h e (by simp)
  have ih:=vg (t0:=t0) (l:=l) (p:=some e) fun a ha=>h a (by simp[ha])
  unfold qci ig
  rw[Bool.and_eq_true,ih,Bool.and_eq_true,decide_eq_true_eq]
  unfold OkE
  constructor
  ·rintro⟨⟨h1,h2⟩,h3⟩
   refine⟨⟨by omega,by omega,?_⟩,h3⟩
   cases p with
   | none=>simpa using h2
   | some q=>exact h2
  ·rintro⟨⟨h1,h2,h4⟩,h3⟩
   refine⟨⟨by omega,?_⟩,h3⟩
   cases p with
   | none=>simpa using h4
   | some q=>exact h4
theorem OkE.nums{t0:Int}{p:Option Evt}{e:Evt}(h:OkE t0 p e)(hp:∀ q,p=some q->0<=q.t/\0<=q.u/\0<=q.v):ni t0 p e<=2^62/\(0<td p e/\td p e<=2^32)/\0<rg p e/\rg p e<=2^32:=by
 obtain⟨h1,h2,h3⟩:=h
 cases p with
 | none =>
  simp only at h3
  unfold ni td rg
  simp only
  omega
 | some q =>
  have hq:=hp q rfl
  simp only[eu]at h3
  unfold ni td rg
  simp only
  refine⟨by omega,by split <;>omega,?_⟩
  split <;>omega
theorem OkE.inj{t0:Int}{p:Option Evt}{e e':Evt}(h:OkE t0 p e)(h':OkE t0 p e')(h1:ni t0 p e=ni t0 p e')(h2:td p e=td p e')(h3:rg p e=rg p e')(h4:e.add=e'.add):e=e':=by
 obtain⟨a1,a2,a3⟩:=h
 obtain⟨b1,b2,b3⟩:=h'
 obtain⟨t,u,v,ad⟩:=e
 obtain⟨t',u',v',ad'⟩:=e'
 simp only at *
 subst h4
 cases p with
 | none =>
  simp only[ni,td,rg]at *
  have:t=t':=by omega
  have:u=u':=by omega
  have:v=v':=by omega
  simp[*]
 | some q =>
  simp only[ni,td,rg,eu]at *
  have e1:t=t':=by omega
  subst e1
  by_cases c:t=q.t
  ·simp only[c,if_true,true_and]at *
   have e2:u=u':=by omega
   subst e2
   have e3:v=v':=by split at h3 <;>omega
   simp[*]
  ·simp only[c,if_false,false_and]at *
   have e2:u=u':=by omega
   subst e2
   have e3:v=v':=by omega
   simp[*]
def rt(p:Option Evt):Prop:=∀ q,p=some q->0<=q.t/\0<=q.u/\0<=q.v
theorem OkE.prev{t0:Int}{p:Option Evt}{e:Evt}(h:OkE t0 p e):rt (some e):=by
 intro q hq;cases hq
 have:=h.1;have:=h.2.1;omega
theorem qmk{t0:Int}{p:Option Evt}{e e':Evt}{s s':List Bool}(hp:rt p)(h:OkE t0 p e)(h':OkE t0 p e')(he:evB t0 p e++s=evB t0 p e'++s'):e=e'/\s=s':=by
 have n1:=h.nums hp
 have n2:=h'.nums hp
 unfold evB at he
 simp only[List.append_assoc,List.cons_append]at he
 obtain⟨g1,g2⟩:=qdq ⟨by unfold ni;omega,by omega⟩ ⟨by unfold ni;omega,by omega⟩ he
 simp only[List.cons.injEq]at g2
 obtain⟨g3,g4⟩:=g2
 obtain⟨g5,g6⟩:=qdq ⟨n1.2.1.1,by omega⟩ ⟨n2.2.1.1,by omega⟩ g4
 obtain⟨g7,g8⟩:=qdq ⟨n1.2.2.1,by omega⟩ ⟨n2.2.2.1,by omega⟩ g6
 exact⟨h.inj h' g1 g5 g7 g3,g8⟩
theorem qod{t0:Int}{p:Option Evt}{e:Evt}:true∈evB t0 p e:=by
 unfold evB vr
 rw[qix (by unfold ni;omega)]
 simp
theorem qfl{t0:Int}:∀ {l l':List Evt} {p:Option Evt} {s s':List Bool},rt p->ig t0 p l->ig t0 p l'->l.length=l'.length->ic t0 p l++s=ic t0 p l'++s'->l=l'/\s=s'
 | [],[],p,s,s',_,_,_,_,h=>⟨rfl,h⟩
 | [],_ ::_,p,s,s',_,_,_,h,_=>by simp at h
 | _ ::_,[],p,s,s',_,_,_,h,_=>by simp at h
 | e ::l,e' ::l',p,s,s',hp,h,h',hl,he=>by
  rw[ic,ic,List.append_assoc,List.append_assoc]at he
  obtain⟨e1,e2⟩:=qmk hp h.1 h'.1 he
  subst e1
  obtain⟨e3,e4⟩:=qfl h.1.prev h.2 h'.2 (by simpa using hl) e2
  exact⟨by rw[e3],e4⟩
theorem xp{t0:Int}:∀ {l l':List Evt} {p:Option Evt} {k:Nat} {s:List Bool},rt p->ig t0 p l->ig t0 p l'->l.length<l'.length->ic t0 p l++List.replicate k false≠ic t0 p l'++s
 | [],[],p,k,s,_,_,_,h,_=>by simp at h
 | [],e ::l',p,k,s,_,_,_,_,h=>by
  rw[ic,ic,List.nil_append,List.append_assoc]at h
  have:true∈List.replicate k false:=by rw[h];simp[qod]
  simp at this
 | _ ::_,[],p,k,s,_,_,_,h,_=>by simp at h
 | e ::l,e' ::l',p,k,s,hp,h,h',hl,he=>by
  rw[ic,ic,List.append_assoc,List.append_assoc]at he
  obtain⟨e1,e2⟩:=qmk hp h.1 h'.1 he
  subst e1
  exact xp h.1.prev h.2 h'.2 (by simpa using hl) e2
theorem xo{t0:Int}{l l':List Evt}(h:ig t0 none l)(h':ig t0 none l')(he:iv t0 l=iv t0 l'):l=l':=by
 have h1:=congrArg bg he
 unfold iv at h1
 rw[i6,i6]at h1
 have hn:rt none:=fun q hq=>by cases hq
 rcases Nat.lt_trichotomy l.length l'.length with k | k | k
 ·exact absurd h1 (xp hn h h' k)
 ·exact(qfl hn h h' k h1).1
 ·exact absurd h1.symm (xp hn h' h k)
theorem s8{v:Nat}(h:0<v)(h64:v<=2^63):(vr v).length<=127:=by
 rw[kr h]
 have:=xu (v:=v) (k:=64) (by omega)
 omega
theorem qml{t0:Int}{p:Option Evt}{e:Evt}(hp:rt p)(h:OkE t0 p e):(evB t0 p e).length<=400/\4<=(evB t0 p e).length:=by
 have n:=h.nums hp
 have g1:=s8 (v:=ni t0 p e) (by unfold ni;omega) (by omega)
 have g2:=s8 (v:=td p e) n.2.1.1 (by omega)
 have g3:=s8 (v:=rg p e) n.2.2.1 (by omega)
 have k1:=kr (v:=ni t0 p e) (by unfold ni;omega)
 have k2:=kr (v:=td p e) n.2.1.1
 have k3:=kr (v:=rg p e) n.2.2.1
 unfold evB
 simp only[List.length_append,List.length_cons]
 omega
theorem vh{t0:Int}:∀ {l:List Evt} {p:Option Evt},rt p->ig t0 p l->(ic t0 p l).length<=400*l.length/\4*l.length<=(ic t0 p l).length
 | [],p,_,_=>by simp[ic]
 | e ::l,p,hp,h=>by
  have h1:=qml hp h.1
  have h2:=vh h.1.prev h.2
  rw[ic,List.length_append,List.length_cons];omega
theorem mr{t0:Int}{l:List Evt}(h:ig t0 none l):(iv t0 l).length<=50*l.length+1/\l.length<=2*(iv t0 l).length:=by
 have:=vh (fun q hq=>by cases hq) h
 unfold iv
 rw[bo];omega
theorem df(t0:Int)(l:List Evt):bf (iv t0 l):=z9 _
theorem ya{t0:Int}:∀ {l m:List Evt} {p:Option Evt},ic t0 p (l++m)=ic t0 p l++ic t0 (nb l p) m
 | [],m,p=>by simp[ic,nb]
 | e ::l,m,p=>by
  rw[List.cons_append,ic,ic,ya,List.append_assoc];rfl
theorem ig.append{t0:Int}:∀ {l m:List Evt} {p:Option Evt},ig t0 p (l++m)↔ig t0 p l/\ig t0 (nb l p) m
 | [],m,p=>by simp[ig,nb]
 | e ::l,m,p=>by
  rw[List.cons_append,ig,ig,ig.append]
  have:nb (e ::l) p=nb l (some e):=rfl
  rw[this,and_assoc]
theorem qv(l:List Evt)(e:Evt)(p:Option Evt):nb (l++[e]) p=some e:=by simp[nb]
theorem OkH.delOk{N t0:Int}(hN:N<=4294967296):∀ {l:List Evt} {p:Option Evt} {now:List Edge},OkH N l p now->(∀ e∈l,0<=e.u)->(p=none->∀ e,l.head?=some e->e.t=t0)->ig t0 p l
 | [],p,now,_,_,_=>trivial
 | e ::l,p,now,h,hu,h0=>by
  obtain⟨h1,h2,h3,x,_,h4⟩:=h
  refine⟨⟨h1,⟨hu e (by simp),h2.1,by omega⟩,?_⟩,h4.delOk hN (fun a ha=>hu a (by simp[ha])) (fun hq=>by cases hq)⟩
  cases p with
  | none=>exact h0 rfl e rfl
  | some q=>exact h3 q rfl
def qds:List Edge->List Evt->Bool
 | _,[]=>true
 | now,e ::l=>match cr now e with
  | none=>false
  | some x=>qds x l
theorem OkH.fits{N:Int}:∀ {l:List Evt} {p:Option Evt} {now:List Edge},OkH N l p now->qds now l=true
 | [],p,now,_=>rfl
 | e ::l,p,now,h=>by
  obtain⟨h1,h2,h3,x,hx,h4⟩:=h
  rw[qds,hx]
  exact h4.fits
def t0E(l:List Evt):Int:=match l with
 | []=>0
 | e ::_=>e.t
theorem ig.t0{t0:Int}{l:List Evt}(h:ig t0 none l)(hne:l≠[]):t0E l=t0:=by
 cases l with
 | nil=>exact absurd rfl hne
 | cons e l=>exact h.1.2.2
def mu(t0:Int)(key:List Edge)(l:List Evt):List Int:=fk (gy (qdx key)).length++(gy (qdx key)++gy (iv t0 l))
structure qkq(t0:Int)(key:List Edge)(l:List Evt):Prop where
 adj:qf2 key
 ne:l≠[]
 del:ig t0 none l
 fit:qds key l=true
def kw(key:List Edge)(l:List Evt):Int:=if qfx key=false∨l=[] then 23 else if qci (t0E l) none l=false then 23 else if qds key l=false then 25 else 0
theorem qfs{key:List Edge}{l:List Evt}(hk:jp key)(hkl:key.length<=2^30)(hl:qa4 l):kw key l=0↔qkq (t0E l) key l:=by
 unfold kw
 have h1:=y8 hk hkl
 have h2:=vg (t0:=t0E l) (p:=none) hl
 constructor
 ·intro h
  split at h
  ·omega
  ·rename_i a
   split at h
   ·omega
   ·rename_i b
    split at h
    ·omega
    ·rename_i c
     simp only[not_or,Bool.not_eq_false]at a b c
     exact⟨h1.1 a.1,a.2,h2.1 b,c⟩
 ·rintro⟨a,b,c,d⟩
  rw[if_neg (by rw[h1.2 a];simp[b]),if_neg (by rw[h2.2 c];simp),if_neg (by rw[d];simp)]
theorem xa:∀(l:List Int)(s nx:Nat),(∀ v∈l,0<=v/\v<=15)->s+l.length<=256->(gb l s nx).length<=3*l.length
 | [],s,nx,_,_=>by simp[gb]
 | x ::l,s,nx,h,hs=>by
  have hx:=h x (by simp)
  simp only[List.length_cons]at hs
  have ih1:=xa l (s+1) (s+1) (fun v hv=>h v (by simp[hv])) (by omega)
  have ih2:=xa l (s+1) nx (fun v hv=>h v (by simp[hv])) (by omega)
  rw[gb]
  split
  ·have a1:=qc5 (s-nx) 2 (by omega) (by omega)
   have a2:=qc5 x.toNat 1 (by omega) (by omega)
   simp only[List.length_append,List.length_cons];omega
  ·simp only[List.length_cons];omega
theorem mi{b:List Int}(hb:bf b)(hl:b.length<2^60):(gy b).length<=2*b.length+800:=by
 unfold gy
 split
 ·have:=dh (v:=0) (by omega);omega
 ·rename_i hne
  obtain⟨l1,r1,s1,v1⟩:=iq hb hne
  have h1:=dh (v:=b.length) (by omega)
  have hp:=wl (lsB b)
  have h2:=dh (v:=jf (lsB b)) (by omega)
  have h3:=xa (lsB b) 0 0 v1 (by omega)
  have h4:=qaq r1 (rj b)
  have h5:=zu r1 (rj b)
  have h6:(rj b).length=b.length:=by simp
  simp only[List.length_append,bo]
  omega
theorem qa(t0:Int)(key:List Edge)(l:List Evt):bf (mu t0 key l):=by
 intro y hy
 unfold mu at hy
 rcases List.mem_append.1 hy with h | h
 ·exact jb _ y h
 rcases List.mem_append.1 h with h | h
 ·exact wk _ y h
 ·exact wk _ y h
theorem qco{t0:Int}{key:List Edge}{l:List Evt}(h:qkq t0 key l)(hk:key.length<=2^20)(hl:l.length<=2^20):(mu t0 key l).length<=60*key.length+100*l.length+1640:=by
 have h1:=y9 h.adj.edgesB h.adj.len
 have h2:=(mr h.del).1
 have h3:=mi (ff key) (by omega)
 have h4:=mi (df t0 l) (by omega)
 have h5:=dh (v:=(gy (qdx key)).length) (by omega)
 unfold mu
 simp only[List.length_append]
 omega
theorem qcn{t0 t1:Int}{key key':List Edge}{l l':List Evt}{s s':List Int}(h:qkq t0 key l)(h':qkq t1 key' l')(hl:l.length<=2^50)(hl':l'.length<=2^50)(he:mu t0 key l++s=mu t1 key' l'++s'):key=key'/\iv t0 l=iv t1 l'/\s=s':=by
 have b1:=ff key
 have b2:=ff key'
 have c1:=y9 h.adj.edgesB h.adj.len
 have c2:=y9 h'.adj.edgesB h'.adj.len
 have m1:=h.adj.len
 have m2:=h'.adj.len
 have d1:=(mr h.del).1
 have d2:=(mr h'.del).1
 have e1:=mi b1 (by omega)
 have e2:=mi b2 (by omega)
 unfold mu at he
 simp only[List.append_assoc]at he
 obtain⟨f1,f2⟩:=m7 (by omega) (by omega) he
 have g1:=qc6 b1 b2 (by omega) (by omega) f2
 have g2:=qi0 h.adj h'.adj g1
 subst g2
 have f3:=List.append_cancel_left f2
 have g3:=qc6 (df _ _) (df _ _) (by omega) (by omega) f3
 rw[g3]at f3
 exact⟨rfl,g3,List.append_cancel_left f3⟩
structure qf1(x:List Int)(n t0 count:Int)(key:List Edge)(l:List Evt):Prop where
 ok:qkq t0 key l
 keyV:∀ e∈key,e.2<n
 evtV:∀ e∈l,e.v<n
 len:(l.length:Int)=count
 eq:x=mu t0 key l
theorem qf1.uniq{x:List Int}{n t0 count n' t0' count':Int}{key key':List Edge}{l l':List Evt}(h:qf1 x n t0 count key l)(h':qf1 x n' t0' count' key' l')(hl:l.length<=2^50)(hl':l'.length<=2^50):key=key'/\iv t0 l=iv t0' l':=by
 have:=qcn (s:=[]) (s':=[]) h.ok h'.ok hl hl' (by rw[← h.eq,← h'.eq])
 exact⟨this.1,this.2.1⟩
theorem qop{x a d:List Int}(ha:bf a)(hd:bf d)(h:x=fk (gy a).length++(gy a++gy d)):a.length<=8*x.length/\d.length<=8*x.length:=by
 have h1:=ut ha rfl
 have h2:=ut hd rfl
 rw[h];simp only[List.length_append]
 omega
end Go.Proofs.YtlieaecnllkefaaGreat

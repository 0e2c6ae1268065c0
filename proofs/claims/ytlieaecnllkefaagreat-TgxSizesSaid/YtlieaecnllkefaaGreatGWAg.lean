/- Own texts, packed: W1, W2, W3, W4, W5. -/
import Derived.Test.YtlieaecnllkefaaGreatGIg
import Derived.Test.YtlieaecnllkefaaGreatGAg
import Derived.Test.YtlieaecnllkefaaGreatGOg
import Derived.Test.YtlieaecnllkefaaGreatGPg
import Derived.Test.YtlieaecnllkefaaGreatGCg
import Derived.Test.YtlieaecnllkefaaGreatGWXg
/-! Numbers in so many bytes, the lowest first. Plain Lean; no program. -/
namespace Go.V
set_option linter.unusedVariables false
set_option linter.unusedSimpArgs false
def ii(v:Int):Nat->List Int
 | 0=>[]
 | n+1=>v % 256 ::ii (v / 256) n
def ud:List Int->Int
 | []=>0
 | b ::l=>b+256*ud l
theorem bj(v:Int):∀ n,(ii v n).length=n
 | 0=>rfl
 | n+1=>by show(ii (v / 256) n).length+1=n+1;rw[bj]
theorem qj3(v:Int)(n:Nat):∀ x∈ii v n,0<=x/\x<=255:=by
 induction n generalizing v with
 | zero=>intro x hx;cases hx
 | succ n ih =>
  intro x hx
  rcases List.mem_cons.1 hx with rfl | hx
  ·omega
  ·exact ih _ x hx
theorem qhx(n:Nat):(256:Int)^(n+1)=256*256^n:=by rw[Int.pow_succ];omega
theorem qs(n:Nat):0<(256:Int)^n:=Int.pow_pos (by omega)
theorem j4:∀ (n:Nat) {v:Int},0<=v->v<256^n->ud (ii v n)=v
 | 0,v,h0,h1=>by simp at h1;show(0:Int)=v;omega
 | n+1,v,h0,h1=>by
  rw[qhx]at h1
  have h2:v / 256<256^n:=Int.ediv_lt_of_lt_mul (by omega) (by rw[Int.mul_comm];exact h1)
  show v % 256+256*ud (ii (v / 256) n)=v
  rw[j4 n (by omega) h2];omega
theorem qlu:∀ {l:List Int},(∀ x∈l,0<=x/\x<=255)->0<=ud l/\ud l<256^l.length
 | [],_=>by simp[ud]
 | b ::l,h=>by
  have ih:=qlu (l:=l) fun x hx=>h x (by simp[hx])
  have hb:=h b (by simp)
  show 0<=b+256*ud l/\b+256*ud l<256^(l.length+1)
  rw[qhx];omega
theorem qdr{n:Nat}{v u:Int}(h0:0<=v)(h1:v<256^n)(h2:0<=u)(h3:u<256^n)(h:ii v n=ii u n):v=u:=by
 rw[← j4 n h0 h1,h,j4 n h2 h3]
theorem qgf(l m:List Int):ud (l++m)=ud l+256^l.length*ud m:=by
 induction l with
 | nil=>simp[ud]
 | cons b l ih =>
  show b+256*ud (l++m)=b+256*ud l+256^(l.length+1)*ud m
  rw[ih,qhx,Int.mul_add,Int.mul_assoc];omega
theorem qao(v:Int)(n:Nat):ii v (n+1)=ii v n++[v / 256^n % 256]:=by
 induction n generalizing v with
 | zero=>simp[ii]
 | succ n ih =>
  show v % 256 ::ii (v / 256) (n+1)=v % 256 ::(ii (v / 256) n++[v / 256^(n+1) % 256])
  rw[ih,qhx,Int.ediv_ediv_of_nonneg (by omega)]
end Go.V
/-! Sums of bytes, seals. Plain Lean; no program. -/
namespace Go.V
open Go
set_option linter.unusedVariables false
set_option linter.unusedSimpArgs false
theorem qm5(x y:Int):bop .xor .u32 x y=((BitVec.ofInt 32 x^^^BitVec.ofInt 32 y).toNat:Int):=by
 show IntKind.u32.wrap ((BitVec.ofInt 32 x^^^BitVec.ofInt 32 y).toNat:Int)=_
 have:=(BitVec.ofInt 32 x^^^BitVec.ofInt 32 y).isLt
 exact gi (by simp only[InK];omega)
theorem xr(x y:Int):0<=bop .xor .u32 x y/\bop .xor .u32 x y<=4294967295:=by
 rw[qm5]
 have:=(BitVec.ofInt 32 x^^^BitVec.ofInt 32 y).isLt
 omega
theorem qqs{s:Int}(h:0<=s/\s<=4294967295):bop .xor .u32 4294967295 (bop .xor .u32 4294967295 s)=s:=by
 rw[qm5,qm5,BitVec.ofInt_natCast,BitVec.ofNat_toNat,BitVec.setWidth_eq,← BitVec.xor_assoc,BitVec.xor_self,BitVec.zero_xor]
 obtain⟨n,rfl⟩:∃ n:Nat,s=n:=⟨s.toNat,by omega⟩
 rw[BitVec.ofInt_natCast,BitVec.toNat_ofNat,Nat.mod_eq_of_lt (by omega)]
theorem qor{s:Int}(h:0<=s/\s<=4294967295):bop .and .u32 s 1=s % 2:=by
 show IntKind.u32.wrap ((BitVec.ofInt 32 s &&& BitVec.ofInt 32 1).toNat:Int)=_
 obtain⟨n,rfl⟩:∃ n:Nat,s=n:=⟨s.toNat,by omega⟩
 have e:(BitVec.ofInt 32 (n:Int) &&& BitVec.ofInt 32 1).toNat=n % 2:=by
  rw[BitVec.ofInt_natCast,show BitVec.ofInt 32 1=BitVec.ofNat 32 1 from rfl,BitVec.toNat_and,BitVec.toNat_ofNat,BitVec.toNat_ofNat,Nat.mod_eq_of_lt (by omega),show 1 % 2^32=1 from rfl,Nat.and_one_is_mod]
 rw[e,gi (by simp only[InK];omega)]
 omega
def qqo(s:Int):Int:=if s % 2=1 then bop .xor .u32 (s / 2) 3988292384 else s / 2
def qo9:Nat->Int->Int
 | 0,s=>s
 | n+1,s=>qo9 n (qqo s)
def qmt(s b:Int):Int:=qo9 8 (bop .xor .u32 s b)
def qfp(s:Int):List Int->Int
 | []=>s
 | b ::l=>qfp (qmt s b) l
def qg1(l:List Int):Int:=bop .xor .u32 4294967295 (qfp 4294967295 l)
theorem qof{s:Int}(h:0<=s/\s<=4294967295):0<=qqo s/\qqo s<=4294967295:=by
 unfold qqo
 split
 ·exact xr _ _
 ·omega
theorem qis:∀ (n:Nat) {s:Int},(0<=s/\s<=4294967295)->0<=qo9 n s/\qo9 n s<=4294967295
 | 0,s,h=>h
 | n+1,s,h=>qis n (qof h)
theorem qmu(n:Nat)(s:Int):qo9 (n+1) s=qqo (qo9 n s):=by
 induction n generalizing s with
 | zero=>rfl
 | succ n ih=>show qo9 (n+1) (qqo s)=_;rw[ih];rfl
theorem qfo(s:Int)(l m:List Int):qfp s (l++m)=qfp (qfp s l) m:=by
 induction l generalizing s with
 | nil=>rfl
 | cons b l ih=>exact ih _
theorem qit(l:List Int):0<=qg1 l/\qg1 l<256^4:=by
 have:=xr 4294967295 (qfp 4294967295 l)
 unfold qg1;omega
def ol(b:List Int):List Int:=b++ii (qg1 b) 4
theorem og(b:List Int):(ol b).length=b.length+4:=by unfold ol;rw[List.length_append,bj]
def qpb(x:List Int):Prop:=4<=x.length/\x=ol (x.take (x.length-4))
theorem se(b:List Int):qpb (ol b)/\(ol b).take ((ol b).length-4)=b:=by
 have h:(ol b).take ((ol b).length-4)=b:=by
  rw[og,show b.length+4-4=b.length by omega]
  unfold ol;exact List.take_left' rfl
 exact⟨⟨by rw[og];omega,by rw[h]⟩,h⟩
end Go.V
/-! Heads, rows, as bytes. Plain Lean; no program. -/
namespace Go.V
open Go
set_option linter.unusedVariables false
set_option linter.unusedSimpArgs false
def By(l:List Int):Prop:=∀ b∈l,0<=b/\b<=255
theorem By.append{l m:List Int}(h:By l)(h':By m):By (l++m):=fun b hb=>(List.mem_append.1 hb).elim (h b) (h' b)
theorem By.fix(v:Int)(n:Nat):By (ii v n):=qj3 v n
theorem By.seal{l:List Int}(h:By l):By (ol l):=h.append (.fix _ _)
theorem By.take{l:List Int}(h:By l)(n:Nat):By (l.take n):=fun b hb=>h b (List.mem_of_mem_take hb)
theorem By.drop{l:List Int}(h:By l)(n:Nat):By (l.drop n):=fun b hb=>h b (List.mem_of_mem_drop hb)
def ez(N K C:Int):Prop:=N<=4294967296/\1<=K/\K<=1048576/\0<=C/\C<=2147483648
instance (N K C:Int):Decidable (ez N K C):=inferInstanceAs (Decidable (_/\_/\_/\_/\_))
def qdk(N K C:Int):List Int:=([84,71,88,49]++ii N 8)++ii K 4++ii C 4
def ng(N K C:Int):List Int:=ol (qdk N K C)
theorem qe9(N K C:Int):(qdk N K C).length=20:=by unfold qdk;simp only[List.length_append,bj];rfl
theorem jk(N K C:Int):(ng N K C).length=24:=by unfold ng;rw[og,qe9]
theorem qih(N K C:Int):By (qdk N K C):=by
 unfold qdk
 refine((By.append ?_ (.fix _ _)).append (.fix _ _)).append (.fix _ _)
 intro b hb;simp at hb;omega
theorem qii(N K C:Int):By (ng N K C):=(qih N K C).seal
theorem nf(N K C:Int):ng N K C=[84,71,88,49]++(ii N 8++(ii K 4++(ii C 4++ii (qg1 (qdk N K C)) 4))):=by
 unfold ng ol
 rw[show qdk N K C=([84,71,88,49]++ii N 8)++ii K 4++ii C 4 from rfl]
 simp only[List.append_assoc]
theorem qb1{l m r:List Int}{a b:Nat}(hl:l.length=a)(hm:m.length=b):((l++(m++r)).drop a).take b=m:=by
 rw[List.drop_left' hl,List.take_left' hm]
theorem qgq(N K C:Int)(r:List Int):(ng N K C++r).take 4=[84,71,88,49]:=by
 rw[nf,List.append_assoc];rfl
theorem qgr(N K C:Int)(r:List Int):((ng N K C++r).drop 4).take 8=ii N 8:=by
 rw[nf,List.append_assoc,List.append_assoc];exact qb1 rfl (bj _ _)
theorem qgs(N K C:Int)(r:List Int):((ng N K C++r).drop 12).take 4=ii K 4:=by
 rw[nf];simp only[List.append_assoc]
 rw[← List.append_assoc [84,71,88,49]]
 exact qb1 (by rw[List.length_append,bj];rfl) (bj _ _)
theorem qgt(N K C:Int)(r:List Int):((ng N K C++r).drop 16).take 4=ii C 4:=by
 rw[nf];simp only[List.append_assoc]
 rw[← List.append_assoc [84,71,88,49],← List.append_assoc ([84,71,88,49]++ii N 8)]
 exact qb1 (by simp only[List.length_append,bj];rfl) (bj _ _)
theorem ql7{N K C N' K' C':Int}{r r':List Int}(h:ng N K C++r=ng N' K' C'++r')(hN:0<=N/\0<=N')(ho:ez N K C)(ho':ez N' K' C'):N=N'/\K=K'/\C=C':=by
 unfold ez at ho ho'
 have h1:=qgr N K C r
 have h2:=qgs N K C r
 have h3:=qgt N K C r
 rw[h]at h1 h2 h3
 rw[qgr]at h1
 rw[qgs]at h2
 rw[qgt]at h3
 exact⟨(qdr (n:=8) (by omega) (by omega) (by omega) (by omega) h1).symm,(qdr (n:=4) (by omega) (by omega) (by omega) (by omega) h2).symm,(qdr (n:=4) (by omega) (by omega) (by omega) (by omega) h3).symm⟩
structure ly where
 (len first sum:Int)
def um(r:ly):List Int:=ii r.len 4++(ii r.first 8++ii r.sum 4)
def wg(l:List ly):List Int:=l.flatMap um++[88,71,84,49]
def oq(l:List ly):List Int:=ol (wg l)
theorem qc3(r:ly):(um r).length=16:=by unfold um;simp only[List.length_append,bj]
theorem ks(l:List ly):(l.flatMap um).length=16*l.length:=by
 induction l with
 | nil=>rfl
 | cons r l ih=>rw[List.flatMap_cons,List.length_append,ih,qc3,List.length_cons];omega
theorem uk(l:List ly):(wg l).length=16*l.length+4:=by unfold wg;rw[List.length_append,ks];rfl
theorem om(l:List ly):(oq l).length=16*l.length+8:=by unfold oq;rw[og,uk]
theorem qlk(r:ly):By (um r):=(By.fix _ _).append ((By.fix _ _).append (.fix _ _))
theorem qik(l:List ly):By (l.flatMap um):=fun b hb=>by
 obtain⟨r,_,hr⟩:=List.mem_flatMap.1 hb
 exact qlk r b hr
theorem qhs(l:List ly):By (wg l):=(qik l).append fun b hb=>by simp at hb;omega
theorem qht(l:List ly):By (oq l):=(qhs l).seal
def mg(last:Int):List ly->Bool
 | []=>true
 | r ::l=>decide (1<=r.len/\r.len<=4294967295/\last<=r.first/\r.first<=4611686018427387903) && mg r.first l
def rowsOk(l:List ly):Bool:=mg 0 l
def de(l:List ly):Int:=(l.map ly.len).sum
theorem j5(l m:List ly):de (l++m)=de l+de m:=by unfold de;rw[List.map_append,List.sum_append]
structure qni(r:ly):Prop where
 len:1<=r.len/\r.len<=4294967295
 first:0<=r.first/\r.first<=4611686018427387903
 sum:0<=r.sum/\r.sum<=4294967295
theorem qbt:∀ {l:List ly} {last:Int},mg last l=true->∀ r∈l,(1<=r.len/\r.len<=4294967295)/\last<=r.first/\r.first<=4611686018427387903
 | [],last,_,r,hr=>by cases hr
 | x ::l,last,h,r,hr=>by
  unfold mg at h
  rw[Bool.and_eq_true,decide_eq_true_iff]at h
  rcases List.mem_cons.1 hr with rfl | hr
  ·exact⟨⟨h.1.1,h.1.2.1⟩,h.1.2.2.1,h.1.2.2.2⟩
  ·have:=qbt h.2 r hr
   exact⟨this.1,by omega,this.2.2⟩
theorem qu:∀ {l:List ly},(∀ r∈l,1<=r.len)->(l.length:Int)<=de l
 | [],_=>by simp[de]
 | x ::l,h=>by
  have ih:=qu (l:=l) fun r hr=>h r (by simp[hr])
  have hx:=h x (by simp)
  have:de (x ::l)=x.len+de l:=by unfold de;simp
  rw[this,List.length_cons];omega
theorem zw{r:ly}(h:qni r)(s:List Int):ud ((um r++s).take 4)=r.len/\ud (((um r++s).drop 4).take 8)=r.first/\ud (((um r++s).drop 12).take 4)=r.sum:=by
 obtain⟨h1,h2,h3⟩:=h
 refine⟨?_,?_,?_⟩
 ·unfold um;rw[List.append_assoc,List.take_left' (bj _ _),j4 4 (by omega) (by omega)]
 ·unfold um;rw[List.append_assoc,List.append_assoc,qb1 (bj _ _) (bj _ _),j4 8 (by omega) (by omega)]
 ·unfold um
  rw[← List.append_assoc (ii r.len 4),List.append_assoc (ii r.len 4++ii r.first 8),qb1 (by simp only[List.length_append,bj]) (bj _ _),j4 4 (by omega) (by omega)]
end Go.V
/-! Files of histories, as bytes. Lists alone. -/
namespace Go.Proofs.YtlieaecnllkefaaGreat
open Go Go.V Go.RowKit
set_option linter.unusedVariables false
set_option linter.unusedSimpArgs false
set_option maxRecDepth 100000
structure ci(N:Int)(l:List Evt):Prop where
 ok:OkH N l none []
 u:∀ e∈l,0<=e.u
 len:l.length<=49
 n:0<=N/\N<=4294967296
def qba(l:List Evt)(k i:Nat):List Edge:=jr (l.take (i*k)) []
def evI(l:List Evt)(k i:Nat):List Evt:=(l.drop (i*k)).take k
def ej(l:List Evt)(k i:Nat):List Int:=mu (t0E (evI l k i)) (qba l k i) (evI l k i)
def vq(l:List Evt)(k i:Nat):ly:=⟨((ej l k i).length:Int),t0E (evI l k i),qg1 (ej l k i)⟩
def lg(n k:Nat):Nat:=(n+k-1) / k
def bx(l:List Evt)(k m:Nat):List Int:=(List.range m).flatMap (ej l k)
def fj(l:List Evt)(k m:Nat):List ly:=(List.range m).map (vq l k)
def fx(N:Int)(l:List Evt)(k:Nat):List Int:=ng N k l.length++(bx l k (lg l.length k)++oq (fj l k (lg l.length k)))
theorem gk{n k i:Nat}(hk:0<k):i<lg n k↔i*k<n:=by
 unfold lg
 rw[Nat.lt_iff_add_one_le,Nat.le_div_iff_mul_le hk,Nat.add_mul,Nat.one_mul];omega
theorem qad{n k:Nat}(hk:0<k):lg n k<=n:=by
 by_cases h:lg n k=0
 ·omega
 ·have:=(gk (n:=n) (i:=lg n k-1) hk).1 (by omega)
  have h1:lg n k-1<=(lg n k-1)*k:=Nat.le_mul_of_pos_right _ hk
  omega
theorem qb0{n k:Nat}(hk:0<k):n<=lg n k*k:=by
 have:=(gk (n:=n) (k:=k) (i:=lg n k) hk)
 omega
theorem uw{n k:Nat}(hk:0<k):(((n:Int)+(k:Int)-1) / (k:Int))=((lg n k:Nat):Int):=by
 unfold lg;rw[show(n:Int)+(k:Int)-1=((n+k-1:Nat):Int) by omega];rfl
section
variable {N : Int} {l : List Evt} {k i m : Nat}
theorem xi:(evI l k i).length=min k (l.length-i*k):=by unfold evI;rw[List.length_take,List.length_drop]
theorem qmj(hk:0<k)(hi:i*k<l.length):evI l k i≠[]:=fun e=>by
 have:=congrArg List.length e
 rw[xi]at this;simp at this;omega
theorem vd(hk:0<k)(hi:i*k<l.length):t0E (evI l k i)=l[i*k].t:=by
 unfold evI
 obtain⟨k,rfl⟩:∃ k',k=k'+1:=⟨k-1,by omega⟩
 rw[List.drop_eq_getElem_cons hi,List.take_succ_cons];rfl
theorem ci.mem(h:ci N l):∀ e∈l,(0<=e.t/\e.t<=4611686018427387903)/\0<=e.u/\e.u<e.v/\e.v<N:=fun e he=>by
 have:=h.ok.mem e he
 exact⟨this.1,h.u e he,this.2⟩
theorem ci.evM(h:ci N l):∀ e∈evI l k i,(0<=e.t/\e.t<=4611686018427387903)/\0<=e.u/\e.u<e.v/\e.v<N:=fun e he=>h.mem e (List.mem_of_mem_drop (List.mem_of_mem_take he))
theorem ci.keyM(h:ci N l):ri (qba l k i)/\∀ a∈qba l k i,0<=a.1/\a.1<a.2/\a.2<N:=by
 have ha:=qnd (k:=((i*k:Nat):Int)) h.ok
 rw[show((i*k:Nat):Int).toNat=i*k by omega]at ha
 refine⟨ha.1,fun a hx=>?_⟩
 obtain⟨e,he,rfl⟩:=ha.2 a hx
 exact(h.mem e he).2
theorem ci.keyLen(h:ci N l):(qba l k i).length<=49:=by
 have:=pq (l.take (i*k)) []
 have:=h.len
 unfold qba
 rw[List.length_take]at *
 simp only[List.length_nil]at *
 omega
theorem ci.evLen(h:ci N l):(evI l k i).length<=49:=by have:=h.len;rw[xi];omega
theorem ci.edgesB(h:ci N l):jp (qba l k i):=fun e he=>by have:=h.keyM.2 e he;have:=h.n;omega
theorem ci.evtsB(h:ci N l):qa4 (evI l k i):=fun e he=>by have:=h.evM e he;have:=h.n;omega
theorem ci.evOk(h:ci N l):OkH N (evI l k i) none (qba l k i):=((h.ok.drop (i*k)).take k).free
theorem ci.blk(h:ci N l)(hk:0<k)(hi:i*k<l.length):qkq (t0E (evI l k i)) (qba l k i) (evI l k i) :=
 ⟨⟨h.keyM.1,fun e he=>by have:=h.keyM.2 e he;have:=h.n;omega,by have:=h.keyLen (k:=k) (i:=i);omega⟩,qmj hk hi,
  h.evOk.delOk h.n.2 (fun e he=>(h.evM e he).2.1) (fun _ e he=>by
   cases hx:evI l k i with
   | nil=>rw[hx]at he;cases he
   | cons a x=>rw[hx]at he;cases he;rfl),h.evOk.fits⟩
theorem ci.err(h:ci N l)(hk:0<k)(hi:i*k<l.length):kw (qba l k i) (evI l k i)=0:=(qfs h.edgesB (by have:=h.keyLen (k:=k) (i:=i);omega) h.evtsB).2 (h.blk hk hi)
theorem ci.is(h:ci N l)(hk:0<k)(hi:i*k<l.length):qf1 (ej l k i) N (t0E (evI l k i)) (evI l k i).length (qba l k i) (evI l k i) :=
 ⟨h.blk hk hi,fun e he=>(h.keyM.2 e he).2.2,fun e he=>(h.evM e he).2.2.2,rfl,rfl⟩
theorem uq(n:Nat):0<(fk n).length:=by unfold fk;split <;>simp
theorem ci.blen(h:ci N l)(hk:0<k)(hi:i*k<l.length):1<=(ej l k i).length/\(ej l k i).length<=9480:=by
 have h1:=h.keyLen (k:=k) (i:=i)
 have h2:=h.evLen (k:=k) (i:=i)
 have h3:=qco (h.blk hk hi) (by omega) (by omega)
 have h4:=uq (gy (qdx (qba l k i))).length
 refine⟨?_,by unfold ej;omega⟩
 unfold ej mu;rw[List.length_append];omega
theorem dq:(fj l k m).length=m:=by unfold fj;simp
theorem qr:fj l k (m+1)=fj l k m++[vq l k m]:=by unfold fj;rw[List.range_succ,List.map_append];rfl
theorem fp:bx l k (m+1)=bx l k m++ej l k m:=by unfold bx;rw[List.range_succ,List.flatMap_append];simp
theorem qde:∀ m,de (fj l k m)=((bx l k m).length:Int)
 | 0=>rfl
 | m+1=>by rw[qr,fp,j5,qde m,List.length_append];unfold de vq;simp
theorem ci.rowN(h:ci N l)(hk:0<k)(hi:i*k<l.length):qni (vq l k i):=by
 have h1:=h.blen hk hi
 have h2:=h.mem _ (List.getElem_mem hi)
 have h3:=qit (ej l k i)
 refine⟨?_,?_,?_⟩ <;>unfold vq <;>simp only
 ·omega
 ·rw[vd hk hi];exact h2.1
 ·omega
theorem ul:∀ {a b:List ly} {last:Int},mg last (a++b)=true↔mg last a=true/\mg ((a.getLast?.map ly.first).getD last) b=true
 | [],b,last=>by simp[mg]
 | x ::a,b,last=>by
  rw[List.cons_append,mg,mg,Bool.and_eq_true,Bool.and_eq_true,ul,and_assoc]
  have:((x ::a).getLast?.map ly.first).getD last=(a.getLast?.map ly.first).getD x.first:=by
   cases a with
   | nil=>rfl
   | cons y a=>rw[List.getLast?_cons_cons];simp[List.getLast?_cons]
  rw[this]
theorem ci.rowsOk(h:ci N l)(hk:0<k):∀ {m:Nat},m<=lg l.length k->rowsOk (fj l k m)=true
 | 0,_=>rfl
 | m+1,hm=>by
  have ih:=h.rowsOk hk (m:=m) (by omega)
  have hi:=(gk (n:=l.length) (i:=m) hk).1 (by omega)
  have hr:=h.rowN hk hi
  unfold Go.V.rowsOk at ih ⊢
  rw[qr,ul]
  refine⟨ih,?_⟩
  have hlast:((fj l k m).getLast?.map ly.first).getD 0<=(vq l k m).first:=by
   cases m with
   | zero=>exact hr.first.1
   | succ m =>
    rw[qr,List.getLast?_append]
    simp only[List.getLast?_singleton,Option.some_or,Option.map_some,Option.getD_some]
    have hi':=(gk (n:=l.length) (i:=m) hk).1 (by omega)
    show t0E (evI l k m)<=t0E (evI l k (m+1))
    rw[vd hk hi',vd hk hi]
    exact h.ok.times.le (Nat.mul_le_mul_right k (by omega)) hi
  unfold mg
  rw[Bool.and_eq_true,decide_eq_true_iff]
  exact⟨⟨hr.len.1,hr.len.2,hlast,hr.first.2⟩,rfl⟩
theorem ci.bodyBy(h:ci N l):By (ej l k i):=fun b hb=>qa _ _ _ b hb
theorem qki:By (bx l k m):=fun b hb=>by
 obtain⟨i,_,hi⟩:=List.mem_flatMap.1 hb
 exact qa _ _ _ b hi
theorem qw:By (fx N l k):=(qii _ _ _).append (qki.append (qht _))
theorem vc:(fx N l k).length=24+((bx l k (lg l.length k)).length+(16*lg l.length k+8)):=by
 unfold fx;rw[List.length_append,List.length_append,jk,om,dq]
theorem ci.bodiesLen(h:ci N l)(hk:0<k):∀ {m:Nat},m<=lg l.length k->(bx l k m).length<=9480*m
 | 0,_=>Nat.zero_le _
 | m+1,hm=>by
  have:=h.bodiesLen hk (m:=m) (by omega)
  have:=h.blen hk ((gk (n:=l.length) (i:=m) hk).1 (by omega))
  rw[fp,List.length_append];omega
theorem xt:∀ {m:Nat},i<m->∃ s,bx l k m=bx l k i++(ej l k i++s)
 | 0,h=>absurd h (Nat.not_lt_zero _)
 | m+1,h=>by
  rw[fp]
  by_cases e:i=m
  ·subst e;exact⟨[],by simp⟩
  ·obtain⟨s,hs⟩:=xt (m:=m) (by omega)
   exact⟨s++ej l k m,by rw[hs];simp only[List.append_assoc]⟩
theorem qj5(hi:i<lg l.length k):((fx N l k).drop (24+(bx l k i).length)).take (ej l k i).length=ej l k i:=by
 obtain⟨s,hs⟩:=xt (l:=l) (k:=k) hi
 unfold fx
 rw[hs]
 simp only[List.append_assoc]
 rw[← List.append_assoc (ng _ _ _)]
 exact qb1 (by rw[List.length_append,jk]) rfl
theorem qcm{N N':Int}{l l':List Evt}{k:Nat}(h:ci N l)(h':ci N' l')(hk:0<k)(hl:l.length=l'.length):∀ {m:Nat} {s s':List Int},m<=lg l.length k->bx l k m++s=bx l' k m++s'->(∀ i,i<m->qba l k i=qba l' k i/\iv (t0E (evI l k i)) (evI l k i)=iv (t0E (evI l' k i)) (evI l' k i)/\ej l k i=ej l' k i)/\s=s'
 | 0,s,s',_,he=>⟨fun i hi=>absurd hi (Nat.not_lt_zero _),by simpa[bx]using he⟩
 | m+1,s,s',hm,he=>by
  rw[fp,fp,List.append_assoc,List.append_assoc]at he
  obtain⟨a1,a2⟩:=qcm h h' hk hl (m:=m) (by omega) he
  have hi:=(gk (n:=l.length) (i:=m) hk).1 (by omega)
  have hi':m*k<l'.length:=by omega
  have hb:=qcn (h.blk hk hi) (h'.blk hk hi') (by have:=h.evLen (k:=k) (i:=m);omega) (by have:=h'.evLen (k:=k) (i:=m);omega) a2
  refine⟨fun i hi=>?_,hb.2.2⟩
  by_cases e:i=m
  ·subst e
   refine⟨hb.1,hb.2.1,?_⟩
   have h3:=hb.2.2
   rw[h3]at a2
   exact List.append_cancel_right a2
  ·exact a1 i (by omega)
theorem qlh{a b:List ly}(h:oq a=oq b)(hl:a.length=b.length)(ha:∀ r∈a,qni r)(hb:∀ r∈b,qni r):a=b:=by
 have h1:a.flatMap um=b.flatMap um:=by
  have h2:(oq a).take (16*a.length)=a.flatMap um:=by
   unfold oq ol wg;rw[List.append_assoc];exact List.take_left' (ks a)
  have h3:(oq b).take (16*b.length)=b.flatMap um:=by
   unfold oq ol wg;rw[List.append_assoc];exact List.take_left' (ks b)
  rw[← h2,← h3,h,hl]
 clear h
 induction a generalizing b with
 | nil=>cases b with
  | nil=>rfl
  | cons y b=>simp at hl
 | cons x a ih =>
  cases b with
  | nil=>simp at hl
  | cons y b =>
   rw[List.flatMap_cons,List.flatMap_cons]at h1
   have q1:=zw (ha x (by simp)) (a.flatMap um)
   have q2:=zw (hb y (by simp)) (b.flatMap um)
   rw[h1]at q1
   have hxy:x=y:=by
    obtain⟨a1,a2,a3⟩:=x
    obtain⟨b1,b2,b3⟩:=y
    simp only at q1 q2
    simp only[ly.mk.injEq]
    exact⟨q1.1.symm.trans q2.1,q1.2.1.symm.trans q2.2.1,q1.2.2.symm.trans q2.2.2⟩
   subst hxy
   rw[ih (b:=b) (by simpa using hl) (fun r hr=>ha r (by simp[hr])) (fun r hr=>hb r (by simp[hr])) (List.append_cancel_left h1)]
theorem qgy(hk:0<k):∀ m,(List.range m).flatMap (evI l k)=l.take (m*k)
 | 0=>by simp
 | m+1=>by
  rw[List.range_succ,List.flatMap_append,qgy hk m,Nat.add_mul,Nat.one_mul,List.take_add]
  simp[evI]
theorem qmf{N N':Int}{l l':List Evt}{k k':Nat}(h:ci N l)(h':ci N' l')(hk:0<k/\k<=1048576)(hk':0<k'/\k'<=1048576)(he:fx N l k=fx N' l' k'):N=N'/\k=k'/\l=l':=by
 have l1:=h.len
 have l2:=h'.len
 obtain⟨e1,e2,e3⟩:=ql7 he ⟨h.n.1,h'.n.1⟩ (by have:=h.n;unfold ez;omega) (by have:=h'.n;unfold ez;omega)
 have ek:k=k':=by omega
 have el:l.length=l'.length:=by omega
 subst ek e1
 refine⟨rfl,rfl,?_⟩
 unfold fx at he
 rw[el]at he
 have he2:=List.append_cancel_left he
 obtain⟨hm,hs⟩:=qcm h h' hk.1 el (m:=lg l'.length k) (by rw[el];exact Nat.le_refl _) he2
 have hR:∀ {N:Int} {l:List Evt},ci N l->∀ r∈fj l k (lg l.length k),qni r:=fun h r hr=>by
  unfold fj at hr
  obtain⟨i,hi,rfl⟩:=List.mem_map.1 hr
  exact h.rowN hk.1 ((gk hk.1).1 (by simpa using hi))
 have hrows:=qlh hs (by rw[dq,dq]) (by rw[← el];exact hR h) (hR h')
 have hev:∀ i,i<lg l'.length k->evI l k i=evI l' k i:=fun i hi=>by
  have hr:vq l k i=vq l' k i:=by
   have h2:(fj l k (lg l'.length k))[i]?=(fj l' k (lg l'.length k))[i]?:=by rw[hrows]
   unfold fj at h2
   simp[hi]at h2
   exact h2
  have ht:t0E (evI l k i)=t0E (evI l' k i):=congrArg ly.first hr
  have hd:=(hm i hi).2.1
  have hb1:=(h.blk hk.1 ((gk (n:=l.length) (i:=i) hk.1).1 (by rw[el];exact hi))).del
  have hb2:=(h'.blk hk.1 ((gk (n:=l'.length) hk.1).1 hi)).del
  rw[ht]at hd hb1
  exact xo hb1 hb2 hd
 have a1:=qgy (l:=l) hk.1 (lg l'.length k)
 have a2:=qgy (l:=l') hk.1 (lg l'.length k)
 have a3:(List.range (lg l'.length k)).flatMap (evI l k)=(List.range (lg l'.length k)).flatMap (evI l' k):=by
  rw[List.flatMap_def,List.flatMap_def,List.map_congr_left fun i hi=>hev i (by simpa using hi)]
 have hc:=qb0 (n:=l'.length) hk.1
 rw[a1,a2,List.take_of_length_le (by omega),List.take_of_length_le (by omega)]at a3
 exact a3
end
end Go.Proofs.YtlieaecnllkefaaGreat
/-! crc: the walks. -/
namespace Go.Proofs.YtlieaecnllkefaaGreat
open Go Go.V Go.RowKit
set_option linter.unusedVariables false
set_option linter.unusedSimpArgs false
set_option maxHeartbeats 4000000
set_option maxRecDepth 100000
theorem qph{v:Int}:IntKind.wrap .u8 v=v % 256:=by
 have:=gi (k:=.u8) (z:=v % 256) (by simp only[InK];omega)
 simp only[IntKind.wrap,IntKind.bits,IntKind.signed]at *
 simp at *
theorem qdv{w:World}{s b:Int}(hb:0<=b/\b<=255):Calls P 71 #[.int .u32 s,.int .u8 b] w fun ev w'=>ev=.returned (.int .u32 (qmt s b))/\w'=w:=by
 apply vc71;dsimp only[VC71,Wt,Br,Bb,Rd,Rc,Rs,Ix,rI_,rB_,rS_]
 try simp only[InK]
 refine⟨by omega,fun m s' i w'=>∃ p:Nat,i=(p:Int)/\p<=8/\m=8-p/\s'=qo9 p (bop .xor .u32 s b)/\w'=w,⟨_,0,rfl,by omega,rfl,rfl,rfl⟩,?_⟩
 rintro m s' i w' ⟨p,rfl,hp,rfl,rfl,rfl⟩
 have hr:=qis p (xr s b)
 have hn:=qmu p (bop .xor .u32 s b)
 unfold qqo at hn
 rw[qor hr]
 refine⟨fun hlt=>⟨fun h1=>⟨by omega,by omega,8-(p+1),by omega,p+1,by omega,by omega,rfl,?_,rfl⟩,fun h1=>⟨by omega,by omega,8-(p+1),by omega,p+1,by omega,by omega,rfl,?_,rfl⟩⟩,fun hge=>?_⟩
 ·rw[hn,if_pos h1];rfl
 ·rw[hn,if_neg h1];rfl
 ·have:p=8:=by omega
  subst this
  exact⟨rfl,rfl⟩
theorem pt{w:World}{A B:Option Addr}{n c d:Nat}{l:List Int}(hp:Row w B [.slice A n c])(hr:Row w A (u8s l))(hn:n=l.length)(hb:By l)(hl:l.length<=2^40):
    Calls P 37 #[.slice B 1 d] w fun ev w'=>ev=.returned (.int .u32 (qg1 l))/\w'=w:=by
  apply vc37;dsimp only[VC37,Wt,Br,Bb,Rd,Rc,Rs,Ix,rI_,rB_,rS_]
  try simp only[InK]
  refine⟨fun m s i w'=>(i=0/\m=1/\s=4294967295/\w'=w)∨(i=1/\m=0/\s=qfp 4294967295 l/\w'=w),⟨_,.inl ⟨rfl,rfl,rfl,rfl⟩⟩,?_⟩
  rintro m s i w' (⟨rfl,rfl,rfl,rfl⟩ | ⟨rfl,rfl,rfl,rfl⟩)
  · refine⟨fun _=>?_,fun h=>absurd (show(0:Int)<((1:Nat):Int) by omega) h⟩
    obtain⟨b,eB,fB⟩:=hp 0 (.slice A n c) rfl
    refine⟨b,eB,by omega,by omega,A,n,c,fB,fun m s i w''=>∃ p:Nat,i=(p:Int)/\p<=l.length/\m=l.length-p/\s=qfp 4294967295 (l.take p)/\w''=w',⟨_,0,rfl,by omega,rfl,rfl,rfl⟩,?_⟩
    rintro m s i w'' ⟨p,rfl,hp',rfl,rfl,rfl⟩
    have tp:(p:Int).toNat=p:=by omega
    rw[tp]
    refine⟨fun hlt=>?_,fun hge=>?_⟩
    · have lp:p<l.length:=by omega
      obtain⟨a,eA,fA⟩:=hr p (.int .u8 l[p]) (by rw[List.getElem?_map,List.getElem?_eq_getElem lp];rfl)
      refine⟨a,eA,by omega,by omega,l[p],fA,(qdv (hb _ (List.getElem_mem lp))).mono fun ev w3 hh=>?_⟩
      obtain⟨rfl,rfl⟩:=hh
      refine⟨_,rfl,by omega,l.length-(p+1),by omega,p+1,by omega,by omega,rfl,?_,rfl⟩
      rw[List.take_succ_eq_append_getElem lp,qfo];rfl
    · have hpe:p=l.length:=by omega
      subst hpe
      rw[List.take_length]
      exact⟨by omega,0,by omega,.inr ⟨rfl,rfl,rfl,rfl⟩⟩
  · refine⟨fun h=>absurd h (by omega),fun _=>?_⟩
    exact⟨rfl,rfl⟩
theorem wc{w:World}{A:Option Addr}{n c:Nat}{l:List Int}(hr:Row w A (u8s l))(hn:n=l.length)(hb:By l)(hl:l.length<=2^30):
    Calls P 62 #[.slice A n c] w fun ev w'=>∃(A':Option Addr)(n' c':Nat),ev=.returned (.slice A' n' c')/\am w' w.heap.size 5 1 A' n' c' (u8s (ol l))/\w.grownBy w' none:=by
  apply vc62;dsimp only[VC62,Wt,Br,Bb,Rd,Rc,Rs,Ix,rI_,rB_,rS_]
  try simp only[InK]
  refine(jt hr hn (by omega)).mono fun ev w1 hh=>?_
  obtain⟨A1,n1,c1,rfl,o1,g1⟩:=hh
  have g2:=World.grownBy_alloc w1 (.cells #[.slice A n c] 26) none
  have rP:Row (w1.alloc (.cells #[.slice A n c] 26)) (some ⟨w1.heap.size,0,none⟩) [.slice A n c]:=wh w1 #[.slice A n c] 26
  refine⟨_,_,_,rfl,(pt rP ((hr.kept_none g1).kept_none g2) hn hb (by omega)).mono fun ev w2 hh=>?_⟩
  obtain⟨rfl,rfl⟩:=hh
  have hcr:=qit l
  have g12:=ab g1 g2
  refine⟨_,rfl,fun m B k d s i W=>∃ p:Nat,i=(p:Int)/\p<=4/\m=4-p/\am W w.heap.size 5 1 B k d (u8s (l++ii (qg1 l) p))/\s=qg1 l / 256^p/\w.grownBy W none,⟨_,0,rfl,by omega,rfl,by simpa[ii]using o1.kp (S:=fun _=>False) (Kp.of_none g2) (fun _ _ e=>e),by simp,g12⟩,?_⟩
  rintro m B k d s i W ⟨p,rfl,hp,rfl,oW,rfl,gW⟩
  refine⟨fun hlt=>?_,fun hge=>?_⟩
  · have hlen:k=l.length+p:=by have:=oW.cases.1;simp[bj]at this;omega
    obtain⟨A3,n3,c3,w3,r3,o3,g3,_⟩:=je (x:=IntKind.wrap .u8 (qg1 l / 256^p)) oW (by omega) gW.size
    have ob:=fun q hq=>(World.ownsRow.lt oW q hq).1
    refine⟨A3,n3,c3,w3,r3,by omega,by omega,4-(p+1),by omega,p+1,by omega,by omega,rfl,?_,?_,cu gW g3 fun q hq=>ob q hq⟩
    · rw[qao,← List.append_assoc,← qph];exact o3
    · rw[show(2:Int)^8=256 by decide,Int.ediv_ediv_of_nonneg (Int.le_of_lt (qs p)),← Int.pow_succ]
  · have:p=4:=by omega
    subst this
    exact⟨_,_,_,rfl,oW,gW⟩
theorem qc0{w:World}{A B:Option Addr}{n c m d:Nat}{a b:List Int}(hA:Row w A (u8s a))(hn:n=a.length)(hB:Row w B (u8s b))(hm:m=b.length)(hl:a.length<=2^40):
    Calls P 119 #[.slice A n c,.slice B m d] w fun ev w'=>ev=.returned (.bool (decide (a=b)))/\w.grownBy w' none:=by
  apply vc119;dsimp only[VC119,Wt,Br,Bb,Rd,Rc,Rs,Ix,rI_,rB_,rS_]
  try simp only[InK]
  refine⟨fun hne=>⟨?_,af _ _⟩,fun heq=>?_⟩
  · rw[decide_eq_false (fun h=>hne (by rw[hn,hm,h]))]
  have hab:a.length=b.length:=by omega
  refine⟨fun q i W=>∃ p:Nat,i=(p:Int)/\p<=a.length/\q=a.length-p/\a.take p=b.take p/\w.grownBy W none,⟨_,0,rfl,by omega,rfl,rfl,af _ _⟩,?_⟩
  rintro q i W ⟨p,rfl,hp,rfl,ht,gW⟩
  have tp:(p:Int).toNat=p:=by omega
  rw[tp]
  refine⟨fun hlt=>?_,fun hge=>?_⟩
  · have gd:=aj gW
    have la:p<a.length:=by omega
    have lb:p<b.length:=by omega
    obtain⟨x,e1,e2⟩:=(hA.kept_none gd) p (.int .u8 a[p]) (by rw[List.getElem?_map,List.getElem?_eq_getElem la];rfl)
    obtain⟨y,f1,f2⟩:=(hB.kept_none gd) p (.int .u8 b[p]) (by rw[List.getElem?_map,List.getElem?_eq_getElem lb];rfl)
    refine⟨x,e1,by omega,by omega,_,e2,y,f1,by omega,by omega,_,f2,fun hne=>⟨?_,gd⟩,fun he=>⟨by omega,a.length-(p+1),by omega,p+1,by omega,by omega,rfl,?_,gd⟩⟩
    · rw[decide_eq_false (fun h=>hne (by subst h;rfl))]
    · rw[List.take_succ_eq_append_getElem la,List.take_succ_eq_append_getElem lb,ht,Decidable.not_not.1 he]
  · have:p=a.length:=by omega
    subst this
    rw[List.take_length,hab,List.take_length]at ht
    rw[decide_eq_true ht]
    exact⟨rfl,gW⟩
theorem qby{w:World}{A:Option Addr}{n c:Nat}{x:List Int}(hr:Row w A (u8s x))(hn:n=x.length)(hc:n<=c)(hb:By x)(hl:x.length<=2^30)(hs:qpb x):
    Calls P 83 #[.slice A n c] w fun ev w'=>∃(A':Option Addr)(n' c':Nat),ev=.returned (.tuple #[.slice A' n' c',.bool true])/\am w' w.heap.size 5 1 A' n' c' (u8s (x.take (x.length-4)))/\w.grownBy w' none:=by
  apply vc83;dsimp only[VC83,Wt,Br,Bb,Rd,Rc,Rs,Ix,rI_,rB_,rS_]
  try simp only[InK]
  have h4:=hs.1
  have tn:((n:Int)-4).toNat=x.length-4:=by omega
  rw[tn]
  have hrT:∀ W,w.grownBy W none->Row W A (u8s (x.take (x.length-4))):=fun W hW j u hj=>by
    rw[List.getElem?_map,List.getElem?_take]at hj
    split at hj
    · exact(hr.kept_none hW) j u (by rw[List.getElem?_map];exact hj)
    · simp at hj
  have hlT:(x.take (x.length-4)).length=x.length-4:=by rw[List.length_take];omega
  refine⟨by omega,fun h=>absurd h (by omega),fun _=>⟨⟨by omega,by omega⟩,(wc (hrT w (af _ _)) hlT.symm (hb.take _) (by omega)).mono fun ev w1 hh=>?_⟩⟩
  obtain⟨A1,n1,c1,rfl,o1,g1⟩:=hh
  have hn1:n1=(ol (x.take (x.length-4))).length:=by have:=o1.cases.1;simp at this;omega
  refine⟨_,_,_,rfl,(qc0 o1.row hn1 (hr.kept_none g1) hn (by rw[og];omega)).mono fun ev w2 hh=>?_⟩
  obtain⟨rfl,g2⟩:=hh
  refine⟨_,rfl,fun h=>absurd hs.2.symm (of_decide_eq_false h),fun _=>⟨⟨by omega,by omega⟩,(jt (hrT w2 (ab g1 g2)) hlT.symm (by omega)).mono fun ev w3 hh=>?_⟩⟩
  obtain⟨A3,n3,c3,rfl,o3,g3⟩:=hh
  have s1:=g1.size
  have s2:=g2.size
  refine⟨_,_,_,rfl,_,_,_,rfl,o3.mono (by omega),ab g1 (ab g2 g3)⟩
end Go.Proofs.YtlieaecnllkefaaGreat

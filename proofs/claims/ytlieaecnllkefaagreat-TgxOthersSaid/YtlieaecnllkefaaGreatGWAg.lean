/- Own texts, packed: W1, W2, W3, W4, W5. -/
import Derived.Test.YtlieaecnllkefaaGreatGIg
import Derived.Test.YtlieaecnllkefaaGreatGAg
import Derived.Test.YtlieaecnllkefaaGreatGOg
import Derived.Test.YtlieaecnllkefaaGreatGPg
import Derived.Test.YtlieaecnllkefaaGreatGCg
import Derived.Test.YtlieaecnllkefaaGreatGWXg
/-! Numbers in so many bytes, the lowest first. Plain Lean; no program. -/
set_option linter.unusedVariables false
set_option linter.unusedSimpArgs false
set_option maxRecDepth 100000
set_option maxHeartbeats 4000000
namespace Go.V
def cZ(v:Int):Nat->List Int
 | 0=>[]
 | n+1=>v % 256 ::cZ (v / 256) n
def fO:List Int->Int
 | []=>0
 | b ::l=>b+256*fO l
theorem aW(v:Int):∀ n,(cZ v n).length=n
 | 0=>rfl
 | n+1=>by show(cZ (v / 256) n).length+1=n+1;rw[aW]
theorem yv(v:Int)(n:Nat):∀ x∈cZ v n,0<=x/\x<=255:=by
 induction n generalizing v with
 | zero=>intro x hx;cases hx
 | succ n ih =>
  intro x hx;rcases List.mem_cons.1 hx with rfl | hx
  ·omega
  ·exact ih _ x hx
theorem uK(n:Nat):(256:Int)^(n+1)=256*256^n:=by rw[Int.pow_succ];omega
theorem kf(n:Nat):0<(256:Int)^n:=Int.pow_pos (by omega)
theorem fY:∀ (n:Nat) {v:Int},0<=v->v<256^n->fO (cZ v n)=v
 | 0,v,h0,h1=>by simp at h1;show(0:Int)=v;omega
 | n+1,v,h0,h1=>by
  rw[uK]at h1;have h2:v / 256<256^n:=Int.ediv_lt_of_lt_mul (by omega) (by rw[Int.mul_comm];exact h1);show v % 256+256*fO (cZ (v / 256) n)=v;rw[fY n (by omega) h2];omega
theorem za:∀ {l:List Int},(∀ x∈l,0<=x/\x<=255)->0<=fO l/\fO l<256^l.length
 | [],_=>by simp[fO]
 | b ::l,h=>by
  have ih:=za (l:=l) fun x hx=>h x (by simp[hx]);have hb:=h b (by simp);show 0<=b+256*fO l/\b+256*fO l<256^(l.length+1);rw[uK];omega
theorem rU{n:Nat}{v u:Int}(h0:0<=v)(h1:v<256^n)(h2:0<=u)(h3:u<256^n)(h:cZ v n=cZ u n):v=u:=by
 rw[← fY n h0 h1,h,fY n h2 h3]
theorem vY(l m:List Int):fO (l++m)=fO l+256^l.length*fO m:=by
 induction l with
 | nil=>simp[fO]
 | cons b l ih =>
  show b+256*fO (l++m)=b+256*fO l+256^(l.length+1)*fO m;rw[ih,uK,Int.mul_add,Int.mul_assoc];omega
theorem pg(v:Int)(n:Nat):cZ v (n+1)=cZ v n++[v / 256^n % 256]:=by
 induction n generalizing v with
 | zero=>simp[cZ]
 | succ n ih =>
  show v % 256 ::cZ (v / 256) (n+1)=v % 256 ::(cZ (v / 256) n++[v / 256^(n+1) % 256]);rw[ih,uK,Int.ediv_ediv_of_nonneg (by omega)]
end Go.V
/-! Sums of bytes, seals. Plain Lean; no program. -/
namespace Go.V
open Go
theorem yL(x y:Int):dC .xor .u32 x y=((BitVec.ofInt 32 x^^^BitVec.ofInt 32 y).toNat:Int):=by
 show IntKind.u32.wrap ((BitVec.ofInt 32 x^^^BitVec.ofInt 32 y).toNat:Int)=_;have:=(BitVec.ofInt 32 x^^^BitVec.ofInt 32 y).isLt;exact er (by simp only[aG];omega)
theorem nw(x y:Int):0<=dC .xor .u32 x y/\dC .xor .u32 x y<=4294967295:=by
 rw[yL];have:=(BitVec.ofInt 32 x^^^BitVec.ofInt 32 y).isLt;omega
theorem De{s:Int}(h:0<=s/\s<=4294967295):dC .xor .u32 4294967295 (dC .xor .u32 4294967295 s)=s:=by
 rw[yL,yL,BitVec.ofInt_natCast,BitVec.ofNat_toNat,BitVec.setWidth_eq,← BitVec.xor_assoc,BitVec.xor_self,BitVec.zero_xor];obtain⟨n,rfl⟩:∃ n:Nat,s=n:=⟨s.toNat,by omega⟩;rw[BitVec.ofInt_natCast,BitVec.toNat_ofNat,Nat.mod_eq_of_lt (by omega)]
theorem B0{s:Int}(h:0<=s/\s<=4294967295):dC .and .u32 s 1=s % 2:=by
 show IntKind.u32.wrap ((BitVec.ofInt 32 s &&& BitVec.ofInt 32 1).toNat:Int)=_;obtain⟨n,rfl⟩:∃ n:Nat,s=n:=⟨s.toNat,by omega⟩;have e:(BitVec.ofInt 32 (n:Int) &&& BitVec.ofInt 32 1).toNat=n % 2:=by
  rw[BitVec.ofInt_natCast,show BitVec.ofInt 32 1=BitVec.ofNat 32 1 from rfl,BitVec.toNat_and,BitVec.toNat_ofNat,BitVec.toNat_ofNat,Nat.mod_eq_of_lt (by omega),show 1 % 2^32=1 from rfl,Nat.and_one_is_mod]
 rw[e,er (by simp only[aG];omega)];omega
def yG(s:Int):Int:=if s % 2=1 then dC .xor .u32 (s / 2) 3988292384 else s / 2
def wQ:Nat->Int->Int
 | 0,s=>s
 | n+1,s=>wQ n (yG s)
def zy(s b:Int):Int:=wQ 8 (dC .xor .u32 s b)
def pX(s:Int):List Int->Int
 | []=>s
 | b ::l=>pX (zy s b) l
def nu(l:List Int):Int:=dC .xor .u32 4294967295 (pX 4294967295 l)
theorem BN{s:Int}(h:0<=s/\s<=4294967295):0<=yG s/\yG s<=4294967295:=by
 unfold yG;split
 ·exact nw _ _
 ·omega
theorem wP:∀ (n:Nat) {s:Int},(0<=s/\s<=4294967295)->0<=wQ n s/\wQ n s<=4294967295
 | 0,s,h=>h
 | n+1,s,h=>wP n (BN h)
theorem AD(n:Nat)(s:Int):wQ (n+1) s=yG (wQ n s):=by
 induction n generalizing s with
 | zero=>rfl
 | succ n ih=>show wQ (n+1) (yG s)=_;rw[ih];rfl
theorem vm(s:Int)(l m:List Int):pX s (l++m)=pX (pX s l) m:=by
 induction l generalizing s with
 | nil=>rfl
 | cons b l ih=>exact ih _
theorem wR(l:List Int):0<=nu l/\nu l<256^4:=by
 have:=nw 4294967295 (pX 4294967295 l);unfold nu;omega
def iv(b:List Int):List Int:=b++cZ (nu b) 4
theorem jK(b:List Int):(iv b).length=b.length+4:=by unfold iv;rw[List.length_append,aW]
def B9(x:List Int):Prop:=4<=x.length/\x=iv (x.take (x.length-4))
theorem kY(b:List Int):B9 (iv b)/\(iv b).take ((iv b).length-4)=b:=by
 have h:(iv b).take ((iv b).length-4)=b:=by
  rw[jK,show b.length+4-4=b.length by omega];unfold iv;exact List.take_left' rfl
 exact⟨⟨by rw[jK];omega,by rw[h]⟩,h⟩
end Go.V
/-! Heads, rows, as bytes. Plain Lean; no program. -/
namespace Go.V
open Go
def By(l:List Int):Prop:=∀ b∈l,0<=b/\b<=255
theorem By.append{l m:List Int}(h:By l)(h':By m):By (l++m):=fun b hb=>(List.mem_append.1 hb).elim (h b) (h' b)
theorem By.fix(v:Int)(n:Nat):By (cZ v n):=yv v n
theorem By.sld{l:List Int}(h:By l):By (iv l):=h.append (.fix _ _)
theorem By.take{l:List Int}(h:By l)(n:Nat):By (l.take n):=fun b hb=>h b (List.mem_of_mem_take hb)
theorem By.drop{l:List Int}(h:By l)(n:Nat):By (l.drop n):=fun b hb=>h b (List.mem_of_mem_drop hb)
def dx(N K C:Int):Prop:=N<=4294967296/\1<=K/\K<=1048576/\0<=C/\C<=2147483648
instance (N K C:Int):Decidable (dx N K C):=inferInstanceAs (Decidable (_/\_/\_/\_/\_))
def nR(N K C:Int):List Int:=([84,71,88,49]++cZ N 8)++cZ K 4++cZ C 4
def gg(N K C:Int):List Int:=iv (nR N K C)
theorem ug(N K C:Int):(nR N K C).length=20:=by unfold nR;simp only[List.length_append,aW];rfl
theorem fK(N K C:Int):(gg N K C).length=24:=by unfold gg;rw[jK,ug]
theorem wz(N K C:Int):By (nR N K C):=by
 unfold nR;refine((By.append ?_ (.fix _ _)).append (.fix _ _)).append (.fix _ _);intro b hb;simp at hb;omega
theorem wB(N K C:Int):By (gg N K C):=(wz N K C).sld
theorem jp(N K C:Int):gg N K C=[84,71,88,49]++(cZ N 8++(cZ K 4++(cZ C 4++cZ (nu (nR N K C)) 4))):=by
 unfold gg iv;rw[show nR N K C=([84,71,88,49]++cZ N 8)++cZ K 4++cZ C 4 from rfl];simp only[List.append_assoc]
theorem oU{l m r:List Int}{a b:Nat}(hl:l.length=a)(hm:m.length=b):((l++(m++r)).drop a).take b=m:=by
 rw[List.drop_left' hl,List.take_left' hm]
theorem wA(N K C:Int)(r:List Int):(gg N K C++r).take 4=[84,71,88,49]:=by
 rw[jp,List.append_assoc];rfl
theorem u7(N K C:Int)(r:List Int):((gg N K C++r).drop 4).take 8=cZ N 8:=by
 rw[jp,List.append_assoc,List.append_assoc];exact oU rfl (aW _ _)
theorem u9(N K C:Int)(r:List Int):((gg N K C++r).drop 12).take 4=cZ K 4:=by
 rw[jp];simp only[List.append_assoc];rw[← List.append_assoc [84,71,88,49]];exact oU (by rw[List.length_append,aW];rfl) (aW _ _)
theorem va(N K C:Int)(r:List Int):((gg N K C++r).drop 16).take 4=cZ C 4:=by
 rw[jp];simp only[List.append_assoc];rw[← List.append_assoc [84,71,88,49],← List.append_assoc ([84,71,88,49]++cZ N 8)];exact oU (by simp only[List.length_append,aW];rfl) (aW _ _)
theorem Al{N K C N' K' C':Int}{r r':List Int}(h:gg N K C++r=gg N' K' C'++r')(hN:0<=N/\0<=N')(ho:dx N K C)(FE:dx N' K' C'):N=N'/\K=K'/\C=C':=by
 unfold dx at ho FE;have h1:=u7 N K C r;have h2:=u9 N K C r;have h3:=va N K C r;rw[h]at h1 h2 h3;rw[u7]at h1;rw[u9]at h2;rw[va]at h3;exact⟨(rU (n:=8) (by omega) (by omega) (by omega) (by omega) h1).symm,(rU (n:=4) (by omega) (by omega) (by omega) (by omega) h2).symm,(rU (n:=4) (by omega) (by omega) (by omega) (by omega) h3).symm⟩
structure dV where
 (len first sum:Int)
def fW(r:dV):List Int:=cZ r.len 4++(cZ r.first 8++cZ r.sum 4)
def jL(l:List dV):List Int:=l.flatMap fW++[88,71,84,49]
def iw(l:List dV):List Int:=iv (jL l)
theorem qU(r:dV):(fW r).length=16:=by unfold fW;simp only[List.length_append,aW]
theorem gV(l:List dV):(l.flatMap fW).length=16*l.length:=by
 induction l with
 | nil=>rfl
 | cons r l ih=>rw[List.flatMap_cons,List.length_append,ih,qU,List.length_cons];omega
theorem ma(l:List dV):(jL l).length=16*l.length+4:=by unfold jL;rw[List.length_append,gV];rfl
theorem jM(l:List dV):(iw l).length=16*l.length+8:=by unfold iw;rw[jK,ma]
theorem y7(r:dV):By (fW r):=(By.fix _ _).append ((By.fix _ _).append (.fix _ _))
theorem wE(l:List dV):By (l.flatMap fW):=fun b hb=>by
 obtain⟨r,_,hr⟩:=List.mem_flatMap.1 hb;exact y7 r b hr
theorem vL(l:List dV):By (jL l):=(wE l).append fun b hb=>by simp at hb;omega
theorem vM(l:List dV):By (iw l):=(vL l).sld
def gQ(last:Int):List dV->Bool
 | []=>true
 | r ::l=>decide (1<=r.len/\r.len<=4294967295/\last<=r.first/\r.first<=4611686018427387903) && gQ r.first l
def rowsOk(l:List dV):Bool:=gQ 0 l
def cK(l:List dV):Int:=(l.map dV.len).sum
theorem ij(l m:List dV):cK (l++m)=cK l+cK m:=by unfold cK;rw[List.map_append,List.sum_append]
structure td(r:dV):Prop where
 len:1<=r.len/\r.len<=4294967295
 first:0<=r.first/\r.first<=4611686018427387903
 sum:0<=r.sum/\r.sum<=4294967295
theorem qT:∀ {l:List dV} {last:Int},gQ last l=true->∀ r∈l,(1<=r.len/\r.len<=4294967295)/\last<=r.first/\r.first<=4611686018427387903
 | [],last,_,r,hr=>by cases hr
 | x ::l,last,h,r,hr=>by
  unfold gQ at h;rw[Bool.and_eq_true,decide_eq_true_iff]at h;rcases List.mem_cons.1 hr with rfl | hr
  ·exact⟨⟨h.1.1,h.1.2.1⟩,h.1.2.2.1,h.1.2.2.2⟩
  ·have:=qT h.2 r hr;exact⟨this.1,by omega,this.2.2⟩
theorem ko:∀ {l:List dV},(∀ r∈l,1<=r.len)->(l.length:Int)<=cK l
 | [],_=>by simp[cK]
 | x ::l,h=>by
  have ih:=ko (l:=l) fun r hr=>h r (by simp[hr]);have hx:=h x (by simp);have:cK (x ::l)=x.len+cK l:=by unfold cK;simp
  rw[this,List.length_cons];omega
theorem oP{r:dV}(h:td r)(s:List Int):fO ((fW r++s).take 4)=r.len/\fO (((fW r++s).drop 4).take 8)=r.first/\fO (((fW r++s).drop 12).take 4)=r.sum:=by
 obtain⟨h1,h2,h3⟩:=h;refine⟨?_,?_,?_⟩
 ·unfold fW;rw[List.append_assoc,List.take_left' (aW _ _),fY 4 (by omega) (by omega)]
 ·unfold fW;rw[List.append_assoc,List.append_assoc,oU (aW _ _) (aW _ _),fY 8 (by omega) (by omega)]
 ·unfold fW;rw[← List.append_assoc (cZ r.len 4),List.append_assoc (cZ r.len 4++cZ r.first 8),oU (by simp only[List.length_append,aW]) (aW _ _),fY 4 (by omega) (by omega)]
end Go.V
/-! Files of histories, as bytes. Lists alone. -/
namespace Go.Proofs.YtlieaecnllkefaaGreat
open Go Go.V Go.RowKit
structure bF(N:Int)(l:List aU):Prop where
 ok:j4 N l none []
 u:∀ e∈l,0<=e.u
 len:l.length<=49
 n:0<=N/\N<=4294967296
def jx(l:List aU)(k i:Nat):List Edge:=eG (l.take (i*k)) []
def iG(l:List aU)(k i:Nat):List aU:=(l.drop (i*k)).take k
def cR(l:List aU)(k i:Nat):List Int:=ic (mR (iG l k i)) (jx l k i) (iG l k i)
def gu(l:List aU)(k i:Nat):dV:=⟨((cR l k i).length:Int),mR (iG l k i),nu (cR l k i)⟩
def dP(n k:Nat):Nat:=(n+k-1) / k
def bP(l:List aU)(k m:Nat):List Int:=(List.range m).flatMap (cR l k)
def dm(l:List aU)(k m:Nat):List dV:=(List.range m).map (gu l k)
def dz(N:Int)(l:List aU)(k:Nat):List Int:=gg N k l.length++(bP l k (dP l.length k)++iw (dm l k (dP l.length k)))
theorem ey{n k i:Nat}(hk:0<k):i<dP n k↔i*k<n:=by
 unfold dP;rw[Nat.lt_iff_add_one_le,Nat.le_div_iff_mul_le hk,Nat.add_mul,Nat.one_mul];omega
theorem nM{n k:Nat}(hk:0<k):dP n k<=n:=by
 by_cases h:dP n k=0
 ·omega
 ·have:=(ey (n:=n) (i:=dP n k-1) hk).1 (by omega);have h1:dP n k-1<=(dP n k-1)*k:=Nat.le_mul_of_pos_right _ hk;omega
theorem rj{n k:Nat}(hk:0<k):n<=dP n k*k:=by
 have:=(ey (n:=n) (k:=k) (i:=dP n k) hk);omega
theorem lq{n k:Nat}(hk:0<k):(((n:Int)+(k:Int)-1) / (k:Int))=((dP n k:Nat):Int):=by
 unfold dP;rw[show(n:Int)+(k:Int)-1=((n+k-1:Nat):Int) by omega];rfl
section
variable {N : Int} {l : List aU} {k i m : Nat}
theorem mu:(iG l k i).length=min k (l.length-i*k):=by unfold iG;rw[List.length_take,List.length_drop]
theorem yz(hk:0<k)(hi:i*k<l.length):iG l k i≠[]:=fun e=>by
 have:=congrArg List.length e;rw[mu]at this;simp at this;omega
theorem mv(hk:0<k)(hi:i*k<l.length):mR (iG l k i)=l[i*k].t:=by
 unfold iG;obtain⟨k,rfl⟩:∃ k',k=k'+1:=⟨k-1,by omega⟩;rw[List.drop_eq_getElem_cons hi,List.take_succ_cons];rfl
theorem bF.mem(h:bF N l):∀ e∈l,(0<=e.t/\e.t<=4611686018427387903)/\0<=e.u/\e.u<e.v/\e.v<N:=fun e he=>by
 have:=h.ok.mem e he;exact⟨this.1,h.u e he,this.2⟩
theorem bF.evM(h:bF N l):∀ e∈iG l k i,(0<=e.t/\e.t<=4611686018427387903)/\0<=e.u/\e.u<e.v/\e.v<N:=fun e he=>h.mem e (List.mem_of_mem_drop (List.mem_of_mem_take he))
theorem bF.keyM(h:bF N l):fp (jx l k i)/\∀ a∈jx l k i,0<=a.1/\a.1<a.2/\a.2<N:=by
 have ha:=AO (k:=((i*k:Nat):Int)) h.ok;rw[show((i*k:Nat):Int).toNat=i*k by omega]at ha;refine⟨ha.1,fun a hx=>?_⟩;obtain⟨e,he,rfl⟩:=ha.2 a hx;exact(h.mem e he).2
theorem bF.keyLen(h:bF N l):(jx l k i).length<=49:=by
 have:=jT (l.take (i*k)) [];have:=h.len;unfold jx;rw[List.length_take]at *;simp only[List.length_nil]at *;omega
theorem bF.evLen(h:bF N l):(iG l k i).length<=49:=by have:=h.len;rw[mu];omega
theorem bF.edgesB(h:bF N l):eW (jx l k i):=fun e he=>by have:=h.keyM.2 e he;have:=h.n;omega
theorem bF.evtsB(h:bF N l):lT (iG l k i):=fun e he=>by have:=h.evM e he;have:=h.n;omega
theorem bF.evOk(h:bF N l):j4 N (iG l k i) none (jx l k i):=((h.ok.drop (i*k)).take k).free
theorem bF.blk(h:bF N l)(hk:0<k)(hi:i*k<l.length):ux (mR (iG l k i)) (jx l k i) (iG l k i) :=
 ⟨⟨h.keyM.1,fun e he=>by have:=h.keyM.2 e he;have:=h.n;omega,by have:=h.keyLen (k:=k) (i:=i);omega⟩,yz hk hi,
  h.evOk.delOk h.n.2 (fun e he=>(h.evM e he).2.1) (fun _ e he=>by
   cases hx:iG l k i with
   | nil=>rw[hx]at he;cases he
   | cons a x=>rw[hx]at he;cases he;rfl),h.evOk.fits⟩
theorem bF.err(h:bF N l)(hk:0<k)(hi:i*k<l.length):fE (jx l k i) (iG l k i)=0:=(uo h.edgesB (by have:=h.keyLen (k:=k) (i:=i);omega) h.evtsB).2 (h.blk hk hi)
theorem bF.is(h:bF N l)(hk:0<k)(hi:i*k<l.length):qf (cR l k i) N (mR (iG l k i)) (iG l k i).length (jx l k i) (iG l k i) :=
 ⟨h.blk hk hi,fun e he=>(h.keyM.2 e he).2.2,fun e he=>(h.evM e he).2.2.2,rfl,rfl⟩
theorem lg(n:Nat):0<(cy n).length:=by unfold cy;split <;>simp
theorem bF.blen(h:bF N l)(hk:0<k)(hi:i*k<l.length):1<=(cR l k i).length/\(cR l k i).length<=9480:=by
 have h1:=h.keyLen (k:=k) (i:=i);have h2:=h.evLen (k:=k) (i:=i);have h3:=sB (h.blk hk hi) (by omega) (by omega);have h4:=lg (cW (kJ (jx l k i))).length;refine⟨?_,by unfold cR;omega⟩;unfold cR ic;rw[List.length_append];omega
theorem dv:(dm l k m).length=m:=by unfold dm;simp
theorem kb:dm l k (m+1)=dm l k m++[gu l k m]:=by unfold dm;rw[List.range_succ,List.map_append];rfl
theorem eE:bP l k (m+1)=bP l k m++cR l k m:=by unfold bP;rw[List.range_succ,List.flatMap_append];simp
theorem ru:∀ m,cK (dm l k m)=((bP l k m).length:Int)
 | 0=>rfl
 | m+1=>by rw[kb,eE,ij,ru m,List.length_append];unfold cK gu;simp
theorem bF.rowN(h:bF N l)(hk:0<k)(hi:i*k<l.length):td (gu l k i):=by
 have h1:=h.blen hk hi;have h2:=h.mem _ (List.getElem_mem hi);have h3:=wR (cR l k i);refine⟨?_,?_,?_⟩ <;>unfold gu <;>simp only
 ·omega
 ·rw[mv hk hi];exact h2.1
 ·omega
theorem mG:∀ {a b:List dV} {last:Int},gQ last (a++b)=true↔gQ last a=true/\gQ ((a.getLast?.map dV.first).getD last) b=true
 | [],b,last=>by simp[gQ]
 | x ::a,b,last=>by
  rw[List.cons_append,gQ,gQ,Bool.and_eq_true,Bool.and_eq_true,mG,and_assoc];have:((x ::a).getLast?.map dV.first).getD last=(a.getLast?.map dV.first).getD x.first:=by
   cases a with
   | nil=>rfl
   | cons y a=>rw[List.getLast?_cons_cons];simp[List.getLast?_cons]
  rw[this]
theorem bF.rowsOk(h:bF N l)(hk:0<k):∀ {m:Nat},m<=dP l.length k->rowsOk (dm l k m)=true
 | 0,_=>rfl
 | m+1,hm=>by
  have ih:=h.rowsOk hk (m:=m) (by omega);have hi:=(ey (n:=l.length) (i:=m) hk).1 (by omega);have hr:=h.rowN hk hi;unfold Go.V.rowsOk at ih ⊢;rw[kb,mG];refine⟨ih,?_⟩;have Fo:((dm l k m).getLast?.map dV.first).getD 0<=(gu l k m).first:=by
   cases m with
   | zero=>exact hr.first.1
   | succ m =>
    rw[kb,List.getLast?_append];simp only[List.getLast?_singleton,Option.some_or,Option.map_some,Option.getD_some];have GY:=(ey (n:=l.length) (i:=m) hk).1 (by omega);show mR (iG l k m)<=mR (iG l k (m+1));rw[mv hk GY,mv hk hi];exact h.ok.times.le (Nat.mul_le_mul_right k (by omega)) hi
  unfold gQ;rw[Bool.and_eq_true,decide_eq_true_iff];exact⟨⟨hr.len.1,hr.len.2,Fo,hr.first.2⟩,rfl⟩
theorem bF.bodyBy(h:bF N l):By (cR l k i):=fun b hb=>kG _ _ _ b hb
theorem yN:By (bP l k m):=fun b hb=>by
 obtain⟨i,_,hi⟩:=List.mem_flatMap.1 hb;exact kG _ _ _ b hi
theorem jU:By (dz N l k):=(wB _ _ _).append (yN.append (vM _))
theorem mr:(dz N l k).length=24+((bP l k (dP l.length k)).length+(16*dP l.length k+8)):=by
 unfold dz;rw[List.length_append,List.length_append,fK,jM,dv]
theorem bF.bodiesLen(h:bF N l)(hk:0<k):∀ {m:Nat},m<=dP l.length k->(bP l k m).length<=9480*m
 | 0,_=>Nat.zero_le _
 | m+1,hm=>by
  have:=h.bodiesLen hk (m:=m) (by omega);have:=h.blen hk ((ey (n:=l.length) (i:=m) hk).1 (by omega));rw[eE,List.length_append];omega
theorem ny:∀ {m:Nat},i<m->∃ s,bP l k m=bP l k i++(cR l k i++s)
 | 0,h=>absurd h (Nat.not_lt_zero _)
 | m+1,h=>by
  rw[eE];by_cases e:i=m
  ·subst e;exact⟨[],by simp⟩
  ·obtain⟨s,hs⟩:=ny (m:=m) (by omega);exact⟨s++cR l k m,by rw[hs];simp only[List.append_assoc]⟩
theorem yx(hi:i<dP l.length k):((dz N l k).drop (24+(bP l k i).length)).take (cR l k i).length=cR l k i:=by
 obtain⟨s,hs⟩:=ny (l:=l) (k:=k) hi;unfold dz;rw[hs];simp only[List.append_assoc];rw[← List.append_assoc (gg _ _ _)];exact oU (by rw[List.length_append,fK]) rfl
theorem sw{N N':Int}{l l':List aU}{k:Nat}(h:bF N l)(h':bF N' l')(hk:0<k)(hl:l.length=l'.length):∀ {m:Nat} {s s':List Int},m<=dP l.length k->bP l k m++s=bP l' k m++s'->(∀ i,i<m->jx l k i=jx l' k i/\ez (mR (iG l k i)) (iG l k i)=ez (mR (iG l' k i)) (iG l' k i)/\cR l k i=cR l' k i)/\s=s'
 | 0,s,s',_,he=>⟨fun i hi=>absurd hi (Nat.not_lt_zero _),by simpa[bP]using he⟩
 | m+1,s,s',hm,he=>by
  rw[eE,eE,List.append_assoc,List.append_assoc]at he;obtain⟨a1,a2⟩:=sw h h' hk hl (m:=m) (by omega) he;have hi:=(ey (n:=l.length) (i:=m) hk).1 (by omega);have GY:m*k<l'.length:=by omega
  have hb:=sA (h.blk hk hi) (h'.blk hk GY) (by have:=h.evLen (k:=k) (i:=m);omega) (by have:=h'.evLen (k:=k) (i:=m);omega) a2;refine⟨fun i hi=>?_,hb.2.2⟩;by_cases e:i=m
  ·subst e;refine⟨hb.1,hb.2.1,?_⟩;have h3:=hb.2.2;rw[h3]at a2;exact List.append_cancel_right a2
  ·exact a1 i (by omega)
theorem zY{a b:List dV}(h:iw a=iw b)(hl:a.length=b.length)(ha:∀ r∈a,td r)(hb:∀ r∈b,td r):a=b:=by
 have h1:a.flatMap fW=b.flatMap fW:=by
  have h2:(iw a).take (16*a.length)=a.flatMap fW:=by
   unfold iw iv jL;rw[List.append_assoc];exact List.take_left' (gV a)
  have h3:(iw b).take (16*b.length)=b.flatMap fW:=by
   unfold iw iv jL;rw[List.append_assoc];exact List.take_left' (gV b)
  rw[← h2,← h3,h,hl]
 clear h
 induction a generalizing b with
 | nil=>cases b with
  | nil=>rfl
  | cons y b=>simp at hl
 | cons x a ih =>
  cases b with
  | nil=>simp at hl
  | cons y b =>
   rw[List.flatMap_cons,List.flatMap_cons]at h1;have q1:=oP (ha x (by simp)) (a.flatMap fW);have q2:=oP (hb y (by simp)) (b.flatMap fW);rw[h1]at q1;have Gf:x=y:=by
    obtain⟨a1,a2,a3⟩:=x;obtain⟨b1,b2,b3⟩:=y;simp only at q1 q2;simp only[dV.mk.injEq];exact⟨q1.1.symm.trans q2.1,q1.2.1.symm.trans q2.2.1,q1.2.2.symm.trans q2.2.2⟩
   subst Gf;rw[ih (b:=b) (by simpa using hl) (fun r hr=>ha r (by simp[hr])) (fun r hr=>hb r (by simp[hr])) (List.append_cancel_left h1)]
theorem vh(hk:0<k):∀ m,(List.range m).flatMap (iG l k)=l.take (m*k)
 | 0=>by simp
 | m+1=>by
  rw[List.range_succ,List.flatMap_append,vh hk m,Nat.add_mul,Nat.one_mul,List.take_add];simp[iG]
theorem Av{N N':Int}{l l':List aU}{k k':Nat}(h:bF N l)(h':bF N' l')(hk:0<k/\k<=1048576)(D8:0<k'/\k'<=1048576)(he:dz N l k=dz N' l' k'):N=N'/\k=k'/\l=l':=by
 have l1:=h.len;have l2:=h'.len;obtain⟨e1,e2,e3⟩:=Al he ⟨h.n.1,h'.n.1⟩ (by have:=h.n;unfold dx;omega) (by have:=h'.n;unfold dx;omega);have ek:k=k':=by omega
 have el:l.length=l'.length:=by omega
 subst ek e1;refine⟨rfl,rfl,?_⟩;unfold dz at he;rw[el]at he;have Md:=List.append_cancel_left he;obtain⟨hm,hs⟩:=sw h h' hk.1 el (m:=dP l'.length k) (by rw[el];exact Nat.le_refl _) Md;have hR:∀ {N:Int} {l:List aU},bF N l->∀ r∈dm l k (dP l.length k),td r:=fun h r hr=>by
  unfold dm at hr;obtain⟨i,hi,rfl⟩:=List.mem_map.1 hr;exact h.rowN hk.1 ((ey hk.1).1 (by simpa using hi))
 have Kh:=zY hs (by rw[dv,dv]) (by rw[← el];exact hR h) (hR h');have JK:∀ i,i<dP l'.length k->iG l k i=iG l' k i:=fun i hi=>by
  have hr:gu l k i=gu l' k i:=by
   have h2:(dm l k (dP l'.length k))[i]?=(dm l' k (dP l'.length k))[i]?:=by rw[Kh]
   unfold dm at h2;simp[hi]at h2;exact h2
  have ht:mR (iG l k i)=mR (iG l' k i):=congrArg dV.first hr;have hd:=(hm i hi).2.1;have Gd:=(h.blk hk.1 ((ey (n:=l.length) (i:=i) hk.1).1 (by rw[el];exact hi))).del;have Ek:=(h'.blk hk.1 ((ey (n:=l'.length) hk.1).1 hi)).del;rw[ht]at hd Gd;exact nr Gd Ek hd
 have a1:=vh (l:=l) hk.1 (dP l'.length k);have a2:=vh (l:=l') hk.1 (dP l'.length k);have a3:(List.range (dP l'.length k)).flatMap (iG l k)=(List.range (dP l'.length k)).flatMap (iG l' k):=by
  rw[List.flatMap_def,List.flatMap_def,List.map_congr_left fun i hi=>JK i (by simpa using hi)]
 have hc:=rj (n:=l'.length) hk.1;rw[a1,a2,List.take_of_length_le (by omega),List.take_of_length_le (by omega)]at a3;exact a3
end
end Go.Proofs.YtlieaecnllkefaaGreat
/-! crc: the walks. -/
namespace Go.Proofs.YtlieaecnllkefaaGreat
open Go Go.V Go.RowKit
theorem AU{v:Int}:IntKind.wrap .u8 v=v % 256:=by
 have:=er (k:=.u8) (z:=v % 256) (by simp only[aG];omega);simp only[IntKind.wrap,IntKind.bits,IntKind.signed]at *;simp at *
theorem tb{w:World}{s b:Int}(hb:0<=b/\b<=255):Calls P 71 #[.int .u32 s,.int .u8 b] w fun ev w'=>ev=.returned (.int .u32 (zy s b))/\w'=w:=by
 apply vc71;dsimp only[VC71,Br]
 try simp only[aG]
 refine⟨by omega,fun m s' i w'=>∃ p:Nat,i=(p:Int)/\p<=8/\m=8-p/\s'=wQ p (dC .xor .u32 s b)/\w'=w,⟨_,0,rfl,by omega,rfl,rfl,rfl⟩,?_⟩;rintro m s' i w' ⟨p,rfl,hp,rfl,rfl,rfl⟩;have hr:=wP p (nw s b);have hn:=AD p (dC .xor .u32 s b);unfold yG at hn;rw[B0 hr];refine⟨fun DF=>⟨fun h1=>⟨by omega,by omega,8-(p+1),by omega,p+1,by omega,by omega,rfl,?_,rfl⟩,fun h1=>⟨by omega,by omega,8-(p+1),by omega,p+1,by omega,by omega,rfl,?_,rfl⟩⟩,fun DK=>?_⟩
 ·rw[hn,if_pos h1];rfl
 ·rw[hn,if_neg h1];rfl
 ·have:p=8:=by omega
  subst this;exact⟨rfl,rfl⟩
theorem kB{w:World}{A B:OA}{n c d:Nat}{l:List Int}(hp:bB w B [.slice A n c])(hr:bB w A (cz l))(hn:n=l.length)(hb:By l)(hl:l.length<=2^40):
    Calls P 37 #[.slice B 1 d] w fun ev w'=>ev=.returned (.int .u32 (nu l))/\w'=w:=by
  apply vc37;dsimp only[VC37,Br,Rd,Rs,Ix,cI]
  try simp only[aG]
  refine⟨fun m s i w'=>(i=0/\m=1/\s=4294967295/\w'=w)∨(i=1/\m=0/\s=pX 4294967295 l/\w'=w),⟨_,.inl ⟨rfl,rfl,rfl,rfl⟩⟩,?_⟩;rintro m s i w' (⟨rfl,rfl,rfl,rfl⟩ | ⟨rfl,rfl,rfl,rfl⟩)
  · refine⟨fun _=>?_,fun h=>absurd (show(0:Int)<((1:Nat):Int) by omega) h⟩;obtain⟨b,eB,fB⟩:=hp 0 (.slice A n c) rfl;refine⟨b,eB,by omega,by omega,A,n,c,fB,fun m s i w''=>∃ p:Nat,i=(p:Int)/\p<=l.length/\m=l.length-p/\s=pX 4294967295 (l.take p)/\w''=w',⟨_,0,rfl,by omega,rfl,rfl,rfl⟩,?_⟩;rintro m s i w'' ⟨p,rfl,GH,rfl,rfl,rfl⟩;have tp:(p:Int).toNat=p:=by omega
    rw[tp];refine⟨fun DF=>?_,fun DK=>?_⟩
    · have lp:p<l.length:=by omega
      obtain⟨a,eA,fA⟩:=hr p (.int .u8 l[p]) (by rw[List.getElem?_map,List.getElem?_eq_getElem lp];rfl);refine⟨a,eA,by omega,by omega,l[p],fA,(tb (hb _ (List.getElem_mem lp))).mono fun ev w3 hh=>?_⟩;obtain⟨rfl,rfl⟩:=hh;refine⟨_,rfl,by omega,l.length-(p+1),by omega,p+1,by omega,by omega,rfl,?_,rfl⟩;rw[List.take_succ_eq_append_getElem lp,vm];rfl
    · have GG:p=l.length:=by omega
      subst GG;rw[List.take_length];exact⟨by omega,0,by omega,.inr ⟨rfl,rfl,rfl,rfl⟩⟩
  · refine⟨fun h=>absurd h (by omega),fun _=>?_⟩;exact⟨rfl,rfl⟩
theorem mU{w:World}{A:OA}{n c:Nat}{l:List Int}(hr:bB w A (cz l))(hn:n=l.length)(hb:By l)(hl:l.length<=2^30):
    Calls P 62 #[.slice A n c] w fun ev w'=>∃(A':OA)(n' c':Nat),ev=.returned (.slice A' n' c')/\aH w' w.heap.size 5 1 A' n' c' (cz (iv l))/\w.grownBy w' none:=by
  apply vc62;dsimp only[VC62,Br,Ap,cI,cS,nb]
  try simp only[aG]
  refine(hZ hr hn (by omega)).mono fun ev w1 hh=>?_;obtain⟨A1,n1,c1,rfl,o1,g1⟩:=hh;have g2:=World.grownBy_alloc w1 (.cells #[.slice A n c] 26) none;have rP:bB (w1.alloc (.cells #[.slice A n c] 26)) (some ⟨w1.heap.size,0,none⟩) [.slice A n c]:=mb w1 #[.slice A n c] 26;refine⟨_,_,_,rfl,(kB rP ((hr.kept_none g1).kept_none g2) hn hb (by omega)).mono fun ev w2 hh=>?_⟩;obtain⟨rfl,rfl⟩:=hh;have Tt:=wR l;have Fd:=aB g1 g2;refine⟨_,rfl,fun m B k d s i W=>∃ p:Nat,i=(p:Int)/\p<=4/\m=4-p/\aH W w.heap.size 5 1 B k d (cz (l++cZ (nu l) p))/\s=nu l / 256^p/\w.grownBy W none,⟨_,0,rfl,by omega,rfl,by simpa[cZ]using o1.kp (S:=fun _=>False) (Kp.of_none g2) (fun _ _ e=>e),by simp,Fd⟩,?_⟩;rintro m B k d s i W ⟨p,rfl,hp,rfl,oW,rfl,gW⟩;refine⟨fun DF=>?_,fun DK=>?_⟩
  · have DH:k=l.length+p:=by have:=oW.cases.1;simp[aW]at this;omega
    obtain⟨A3,n3,c3,w3,r3,o3,g3,_⟩:=fM (x:=IntKind.wrap .u8 (nu l / 256^p)) oW (by omega) gW.size;have ob:=fun q hq=>(World.ownsRow.lt oW q hq).1;refine⟨A3,n3,c3,w3,r3,by omega,by omega,4-(p+1),by omega,p+1,by omega,by omega,rfl,?_,?_,de gW g3 fun q hq=>ob q hq⟩
    · rw[pg,← List.append_assoc,← AU];exact o3
    · rw[show(2:Int)^8=256 by decide,Int.ediv_ediv_of_nonneg (Int.le_of_lt (kf p)),← Int.pow_succ]
  · have:p=4:=by omega
    subst this;exact⟨_,_,_,rfl,oW,gW⟩
theorem sQ{w:World}{A B:OA}{n c m d:Nat}{a b:List Int}(hA:bB w A (cz a))(hn:n=a.length)(hB:bB w B (cz b))(hm:m=b.length)(hl:a.length<=2^40):
    Calls P 119 #[.slice A n c,.slice B m d] w fun ev w'=>ev=.returned (.bool (decide (a=b)))/\w.grownBy w' none:=by
  apply vc119;dsimp only[VC119,rb,Br,Rd,Ix]
  try simp only[aG]
  refine⟨fun DJ=>⟨?_,aD _ _⟩,fun Ga=>?_⟩
  · rw[decide_eq_false (fun h=>DJ (by rw[hn,hm,h]))]
  have Hc:a.length=b.length:=by omega
  refine⟨fun q i W=>∃ p:Nat,i=(p:Int)/\p<=a.length/\q=a.length-p/\a.take p=b.take p/\w.grownBy W none,⟨_,0,rfl,by omega,rfl,rfl,aD _ _⟩,?_⟩;rintro q i W ⟨p,rfl,hp,rfl,ht,gW⟩;have tp:(p:Int).toNat=p:=by omega
  rw[tp];refine⟨fun DF=>?_,fun DK=>?_⟩
  · have gd:=aI gW;have la:p<a.length:=by omega
    have lb:p<b.length:=by omega
    obtain⟨x,e1,e2⟩:=(hA.kept_none gd) p (.int .u8 a[p]) (by rw[List.getElem?_map,List.getElem?_eq_getElem la];rfl);obtain⟨y,f1,f2⟩:=(hB.kept_none gd) p (.int .u8 b[p]) (by rw[List.getElem?_map,List.getElem?_eq_getElem lb];rfl);refine⟨x,e1,by omega,by omega,_,e2,y,f1,by omega,by omega,_,f2,fun DJ=>⟨?_,gd⟩,fun he=>⟨by omega,a.length-(p+1),by omega,p+1,by omega,by omega,rfl,?_,gd⟩⟩
    · rw[decide_eq_false (fun h=>DJ (by subst h;rfl))]
    · rw[List.take_succ_eq_append_getElem la,List.take_succ_eq_append_getElem lb,ht,Decidable.not_not.1 he]
  · have:p=a.length:=by omega
    subst this;rw[List.take_length,Hc,List.take_length]at ht;rw[decide_eq_true ht];exact⟨rfl,gW⟩
theorem rh{w:World}{A:OA}{n c:Nat}{x:List Int}(hr:bB w A (cz x))(hn:n=x.length)(hc:n<=c)(hb:By x)(hl:x.length<=2^30)(hs:B9 x):
    Calls P 83 #[.slice A n c] w fun ev w'=>∃(A':OA)(n' c':Nat),ev=.returned (.tuple #[.slice A' n' c',.bool true])/\aH w' w.heap.size 5 1 A' n' c' (cz (x.take (x.length-4)))/\w.grownBy w' none:=by
  apply vc83;dsimp only[VC83,rt,Br,cB,cS]
  try simp only[aG]
  have h4:=hs.1;have tn:((n:Int)-4).toNat=x.length-4:=by omega
  rw[tn];have OR:∀ W,w.grownBy W none->bB W A (cz (x.take (x.length-4))):=fun W hW j u hj=>by
    rw[List.getElem?_map,List.getElem?_take]at hj;split at hj
    · exact(hr.kept_none hW) j u (by rw[List.getElem?_map];exact hj)
    · simp at hj
  have Pb:(x.take (x.length-4)).length=x.length-4:=by rw[List.length_take];omega
  refine⟨by omega,fun h=>absurd h (by omega),fun _=>⟨⟨by omega,by omega⟩,(mU (OR w (aD _ _)) Pb.symm (hb.take _) (by omega)).mono fun ev w1 hh=>?_⟩⟩;obtain⟨A1,n1,c1,rfl,o1,g1⟩:=hh;have Hp:n1=(iv (x.take (x.length-4))).length:=by have:=o1.cases.1;simp at this;omega
  refine⟨_,_,_,rfl,(sQ o1.row Hp (hr.kept_none g1) hn (by rw[jK];omega)).mono fun ev w2 hh=>?_⟩;obtain⟨rfl,g2⟩:=hh;refine⟨_,rfl,fun h=>absurd hs.2.symm (of_decide_eq_false h),fun _=>⟨⟨by omega,by omega⟩,(hZ (OR w2 (aB g1 g2)) Pb.symm (by omega)).mono fun ev w3 hh=>?_⟩⟩;obtain⟨A3,n3,c3,rfl,o3,g3⟩:=hh;have s1:=g1.size;have s2:=g2.size;refine⟨_,_,_,rfl,_,_,_,rfl,o3.mono (by omega),aB g1 (aB g2 g3)⟩
end Go.Proofs.YtlieaecnllkefaaGreat

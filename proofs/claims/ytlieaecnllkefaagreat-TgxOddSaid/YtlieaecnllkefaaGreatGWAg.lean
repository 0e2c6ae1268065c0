/- Own texts, packed: W1, W2, W3, W4, W5. -/
import Derived.Test.YtlieaecnllkefaaGreatGIg
import Derived.Test.YtlieaecnllkefaaGreatGAg
import Derived.Test.YtlieaecnllkefaaGreatGOg
import Derived.Test.YtlieaecnllkefaaGreatGPg
import Derived.Test.YtlieaecnllkefaaGreatGCg
import Derived.Test.YtlieaecnllkefaaGreatGWXg
/-! Numbers in so many bytes, the lowest first. Plain Lean; no program. -/
set_option linter.unusedVariables false
set_option linter.unusedSimpArgs false
set_option maxRecDepth 100000
set_option maxHeartbeats 4000000
namespace Go.V
def db(v:Int):Nat->List Int
 | 0=>[]
 | n+1=>v % 256 ::db (v / 256) n
def im:List Int->Int
 | []=>0
 | b ::l=>b+256*im l
theorem aU(v:Int):∀ n,(db v n).length=n
 | 0=>rfl
 | n+1=>by show(db (v / 256) n).length+1=n+1;rw[aU]
theorem AF(v:Int)(n:Nat):∀ x∈db v n,0<=x/\x<=255:=by
 induction n generalizing v with
 | zero=>intro x hx;cases hx
 | succ n ih =>
  intro x hx;rcases List.mem_cons.1 hx with rfl | hx
  ·omega
  ·exact ih _ x hx
theorem wY(n:Nat):(256:Int)^(n+1)=256*256^n:=by rw[Int.pow_succ];omega
theorem lW(n:Nat):0<(256:Int)^n:=Int.pow_pos (by omega)
theorem j4:∀ (n:Nat) {v:Int},0<=v->v<256^n->im (db v n)=v
 | 0,v,h0,h1=>by simp at h1;show(0:Int)=v;omega
 | n+1,v,h0,h1=>by
  rw[wY]at h1;have h2:v / 256<256^n:=Int.ediv_lt_of_lt_mul (by omega) (by rw[Int.mul_comm];exact h1);show v % 256+256*im (db (v / 256) n)=v;rw[j4 n (by omega) h2];omega
theorem Bw:∀ {l:List Int},(∀ x∈l,0<=x/\x<=255)->0<=im l/\im l<256^l.length
 | [],_=>by simp[im]
 | b ::l,h=>by
  have ih:=Bw (l:=l) fun x hx=>h x (by simp[hx]);have hb:=h b (by simp);show 0<=b+256*im l/\b+256*im l<256^(l.length+1);rw[wY];omega
theorem yB(l m:List Int):im (l++m)=im l+256^l.length*im m:=by
 induction l with
 | nil=>simp[im]
 | cons b l ih =>
  show b+256*im (l++m)=b+256*im l+256^(l.length+1)*im m;rw[ih,wY,Int.mul_add,Int.mul_assoc];omega
theorem nT(v:Int)(n:Nat):db v (n+1)=db v n++[v / 256^n % 256]:=by
 induction n generalizing v with
 | zero=>simp[db]
 | succ n ih =>
  show v % 256 ::db (v / 256) (n+1)=v % 256 ::(db (v / 256) n++[v / 256^(n+1) % 256]);rw[ih,wY,Int.ediv_ediv_of_nonneg (by omega)]
end Go.V
/-! Sums of bytes, seals. Plain Lean; no program. -/
namespace Go.V
open Go
theorem AW(x y:Int):dD .xor .u32 x y=((BitVec.ofInt 32 x^^^BitVec.ofInt 32 y).toNat:Int):=by
 show IntKind.u32.wrap ((BitVec.ofInt 32 x^^^BitVec.ofInt 32 y).toNat:Int)=_;have:=(BitVec.ofInt 32 x^^^BitVec.ofInt 32 y).isLt;exact eS (by simp only[aG];omega)
theorem j9(x y:Int):0<=dD .xor .u32 x y/\dD .xor .u32 x y<=4294967295:=by
 rw[AW];have:=(BitVec.ofInt 32 x^^^BitVec.ofInt 32 y).isLt;omega
theorem zm{s:Int}(h:0<=s/\s<=4294967295):dD .xor .u32 4294967295 (dD .xor .u32 4294967295 s)=s:=by
 rw[AW,AW,BitVec.ofInt_natCast,BitVec.ofNat_toNat,BitVec.setWidth_eq,← BitVec.xor_assoc,BitVec.xor_self,BitVec.zero_xor];obtain⟨n,rfl⟩:∃ n:Nat,s=n:=⟨s.toNat,by omega⟩;rw[BitVec.ofInt_natCast,BitVec.toNat_ofNat,Nat.mod_eq_of_lt (by omega)]
theorem zu{s:Int}(h:0<=s/\s<=4294967295):dD .and .u32 s 1=s % 2:=by
 show IntKind.u32.wrap ((BitVec.ofInt 32 s &&& BitVec.ofInt 32 1).toNat:Int)=_;obtain⟨n,rfl⟩:∃ n:Nat,s=n:=⟨s.toNat,by omega⟩;have e:(BitVec.ofInt 32 (n:Int) &&& BitVec.ofInt 32 1).toNat=n % 2:=by
  rw[BitVec.ofInt_natCast,show BitVec.ofInt 32 1=BitVec.ofNat 32 1 from rfl,BitVec.toNat_and,BitVec.toNat_ofNat,BitVec.toNat_ofNat,Nat.mod_eq_of_lt (by omega),show 1 % 2^32=1 from rfl,Nat.and_one_is_mod]
 rw[e,eS (by simp only[aG];omega)];omega
def y9(s:Int):Int:=if s % 2=1 then dD .xor .u32 (s / 2) 3988292384 else s / 2
def xK:Nat->Int->Int
 | 0,s=>s
 | n+1,s=>xK n (y9 s)
def qh(s b:Int):Int:=xK 8 (dD .xor .u32 s b)
def nt(s:Int):List Int->Int
 | []=>s
 | b ::l=>nt (qh s b) l
def jw(l:List Int):Int:=dD .xor .u32 4294967295 (nt 4294967295 l)
theorem DG{s:Int}(h:0<=s/\s<=4294967295):0<=y9 s/\y9 s<=4294967295:=by
 unfold y9;split
 ·exact j9 _ _
 ·omega
theorem qk:∀ (n:Nat) {s:Int},(0<=s/\s<=4294967295)->0<=xK n s/\xK n s<=4294967295
 | 0,s,h=>h
 | n+1,s,h=>qk n (DG h)
theorem wC(n:Nat)(s:Int):xK (n+1) s=y9 (xK n s):=by
 induction n generalizing s with
 | zero=>rfl
 | succ n ih=>show xK (n+1) (y9 s)=_;rw[ih];rfl
theorem y8(s b:Int):0<=qh s b/\qh s b<=4294967295:=qk 8 (j9 _ _)
theorem wD:∀ (l:List Int) {s:Int},(0<=s/\s<=4294967295)->0<=nt s l/\nt s l<=4294967295
 | [],s,h=>h
 | b ::l,s,h=>wD l (y8 s b)
theorem qo(s:Int)(l m:List Int):nt s (l++m)=nt (nt s l) m:=by
 induction l generalizing s with
 | nil=>rfl
 | cons b l ih=>exact ih _
theorem qm(l:List Int):0<=jw l/\jw l<256^4:=by
 have:=j9 4294967295 (nt 4294967295 l);unfold jw;omega
def jA(b:List Int):List Int:=b++db (jw b) 4
theorem kQ(b:List Int):(jA b).length=b.length+4:=by unfold jA;rw[List.length_append,aU]
def DY(x:List Int):Prop:=4<=x.length/\x=jA (x.take (x.length-4))
theorem mQ(b:List Int):DY (jA b)/\(jA b).take ((jA b).length-4)=b:=by
 have h:(jA b).take ((jA b).length-4)=b:=by
  rw[kQ,show b.length+4-4=b.length by omega];unfold jA;exact List.take_left' rfl
 exact⟨⟨by rw[kQ];omega,by rw[h]⟩,h⟩
end Go.V
/-! Heads, rows, as bytes. Plain Lean; no program. -/
namespace Go.V
open Go
def By(l:List Int):Prop:=∀ b∈l,0<=b/\b<=255
theorem By.append{l m:List Int}(h:By l)(h':By m):By (l++m):=fun b hb=>(List.mem_append.1 hb).elim (h b) (h' b)
theorem By.fix(v:Int)(n:Nat):By (db v n):=AF v n
theorem By.sld{l:List Int}(h:By l):By (jA l):=h.append (.fix _ _)
theorem By.take{l:List Int}(h:By l)(n:Nat):By (l.take n):=fun b hb=>h b (List.mem_of_mem_take hb)
theorem By.drop{l:List Int}(h:By l)(n:Nat):By (l.drop n):=fun b hb=>h b (List.mem_of_mem_drop hb)
def dJ(N K C:Int):Prop:=N<=4294967296/\1<=K/\K<=1048576/\0<=C/\C<=2147483648
instance (N K C:Int):Decidable (dJ N K C):=inferInstanceAs (Decidable (_/\_/\_/\_/\_))
def nd(N K C:Int):List Int:=([84,71,88,49]++db N 8)++db K 4++db C 4
def fE(N K C:Int):List Int:=jA (nd N K C)
theorem qT(N K C:Int):(nd N K C).length=20:=by unfold nd;simp only[List.length_append,aU];rfl
theorem eE(N K C:Int):(fE N K C).length=24:=by unfold fE;rw[kQ,qT]
theorem uJ(N K C:Int):By (nd N K C):=by
 unfold nd;refine((By.append ?_ (.fix _ _)).append (.fix _ _)).append (.fix _ _);intro b hb;simp at hb;omega
theorem uK(N K C:Int):By (fE N K C):=(uJ N K C).sld
theorem kv(N K C:Int):fE N K C=[84,71,88,49]++(db N 8++(db K 4++(db C 4++db (jw (nd N K C)) 4))):=by
 unfold fE jA;rw[show nd N K C=([84,71,88,49]++db N 8)++db K 4++db C 4 from rfl];simp only[List.append_assoc]
theorem o0{l m r:List Int}{a b:Nat}(hl:l.length=a)(hm:m.length=b):((l++(m++r)).drop a).take b=m:=by
 rw[List.drop_left' hl,List.take_left' hm]
theorem yR(N K C:Int)(r:List Int):(fE N K C++r).take 4=[84,71,88,49]:=by
 rw[kv,List.append_assoc];rfl
theorem EL(N K C:Int)(r:List Int):((fE N K C++r).drop 4).take 8=db N 8:=by
 rw[kv,List.append_assoc,List.append_assoc];exact o0 rfl (aU _ _)
theorem EM(N K C:Int)(r:List Int):((fE N K C++r).drop 12).take 4=db K 4:=by
 rw[kv];simp only[List.append_assoc];rw[← List.append_assoc [84,71,88,49]];exact o0 (by rw[List.length_append,aU];rfl) (aU _ _)
theorem EN(N K C:Int)(r:List Int):((fE N K C++r).drop 16).take 4=db C 4:=by
 rw[kv];simp only[List.append_assoc];rw[← List.append_assoc [84,71,88,49],← List.append_assoc ([84,71,88,49]++db N 8)];exact o0 (by simp only[List.length_append,aU];rfl) (aU _ _)
structure el where
 (len first sum:Int)
def iZ(r:el):List Int:=db r.len 4++(db r.first 8++db r.sum 4)
def kS(l:List el):List Int:=l.flatMap iZ++[88,71,84,49]
def jY(l:List el):List Int:=jA (kS l)
theorem tV(r:el):(iZ r).length=16:=by unfold iZ;simp only[List.length_append,aU]
theorem jO(l:List el):(l.flatMap iZ).length=16*l.length:=by
 induction l with
 | nil=>rfl
 | cons r l ih=>rw[List.flatMap_cons,List.length_append,ih,tV,List.length_cons];omega
theorem kR(l:List el):(kS l).length=16*l.length+4:=by unfold kS;rw[List.length_append,jO];rfl
theorem iY(l:List el):(jY l).length=16*l.length+8:=by unfold jY;rw[kQ,kR]
theorem Bq(r:el):By (iZ r):=(By.fix _ _).append ((By.fix _ _).append (.fix _ _))
theorem yU(l:List el):By (l.flatMap iZ):=fun b hb=>by
 obtain⟨r,_,hr⟩:=List.mem_flatMap.1 hb;exact Bq r b hr
theorem tT(l:List el):By (kS l):=(yU l).append fun b hb=>by simp at hb;omega
theorem tU(l:List el):By (jY l):=(tT l).sld
def fX(last:Int):List el->Bool
 | []=>true
 | r ::l=>decide (1<=r.len/\r.len<=4294967295/\last<=r.first/\r.first<=4611686018427387903) && fX r.first l
def rowsOk(l:List el):Bool:=fX 0 l
def da(l:List el):Int:=(l.map el.len).sum
theorem gi(l m:List el):da (l++m)=da l+da m:=by unfold da;rw[List.map_append,List.sum_append]
structure vi(r:el):Prop where
 len:1<=r.len/\r.len<=4294967295
 first:0<=r.first/\r.first<=4611686018427387903
 sum:0<=r.sum/\r.sum<=4294967295
theorem lR:∀ {l:List el} {last:Int},fX last l=true->∀ r∈l,(1<=r.len/\r.len<=4294967295)/\last<=r.first/\r.first<=4611686018427387903
 | [],last,_,r,hr=>by cases hr
 | x ::l,last,h,r,hr=>by
  unfold fX at h;rw[Bool.and_eq_true,decide_eq_true_iff]at h;rcases List.mem_cons.1 hr with rfl | hr
  ·exact⟨⟨h.1.1,h.1.2.1⟩,h.1.2.2.1,h.1.2.2.2⟩
  ·have:=lR h.2 r hr;exact⟨this.1,by omega,this.2.2⟩
theorem mh:∀ {l:List el},(∀ r∈l,1<=r.len)->(l.length:Int)<=da l
 | [],_=>by simp[da]
 | x ::l,h=>by
  have ih:=mh (l:=l) fun r hr=>h r (by simp[hr]);have hx:=h x (by simp);have:da (x ::l)=x.len+da l:=by unfold da;simp
  rw[this,List.length_cons];omega
theorem Cj{r:el}(h:vi r)(s:List Int):im ((iZ r++s).take 4)=r.len/\im (((iZ r++s).drop 4).take 8)=r.first/\im (((iZ r++s).drop 12).take 4)=r.sum:=by
 obtain⟨h1,h2,h3⟩:=h;refine⟨?_,?_,?_⟩
 ·unfold iZ;rw[List.append_assoc,List.take_left' (aU _ _),j4 4 (by omega) (by omega)]
 ·unfold iZ;rw[List.append_assoc,List.append_assoc,o0 (aU _ _) (aU _ _),j4 8 (by omega) (by omega)]
 ·unfold iZ;rw[← List.append_assoc (db r.len 4),List.append_assoc (db r.len 4++db r.first 8),o0 (by simp only[List.length_append,aU]) (aU _ _),j4 4 (by omega) (by omega)]
end Go.V
/-! Files of histories, as bytes. Lists alone. -/
namespace Go.Proofs.YtlieaecnllkefaaGreat
open Go Go.V Go.RowKit
structure cu(N:Int)(l:List aS):Prop where
 ok:lG N l none []
 u:∀ e∈l,0<=e.u
 len:l.length<=49
 n:0<=N/\N<=4294967296
def eW(l:List aS)(k i:Nat):List Edge:=dA (l.take (i*k)) []
def fC(l:List aS)(k i:Nat):List aS:=(l.drop (i*k)).take k
def dO(l:List aS)(k i:Nat):List Int:=fk (kM (fC l k i)) (eW l k i) (fC l k i)
def jD(l:List aS)(k i:Nat):el:=⟨((dO l k i).length:Int),kM (fC l k i),jw (dO l k i)⟩
def dy(n k:Nat):Nat:=(n+k-1) / k
def dl(l:List aS)(k m:Nat):List Int:=(List.range m).flatMap (dO l k)
def eO(l:List aS)(k m:Nat):List el:=(List.range m).map (jD l k)
def fx(N:Int)(l:List aS)(k:Nat):List Int:=fE N k l.length++(dl l k (dy l.length k)++jY (eO l k (dy l.length k)))
theorem dU{n k i:Nat}(hk:0<k):i<dy n k↔i*k<n:=by
 unfold dy;rw[Nat.lt_iff_add_one_le,Nat.le_div_iff_mul_le hk,Nat.add_mul,Nat.one_mul];omega
theorem jF{n k:Nat}(hk:0<k):dy n k<=n:=by
 by_cases h:dy n k=0
 ·omega
 ·have:=(dU (n:=n) (i:=dy n k-1) hk).1 (by omega);have h1:dy n k-1<=(dy n k-1)*k:=Nat.le_mul_of_pos_right _ hk;omega
theorem oV{n k:Nat}(hk:0<k):n<=dy n k*k:=by
 have:=(dU (n:=n) (k:=k) (i:=dy n k) hk);omega
theorem j5{n k:Nat}(hk:0<k):(((n:Int)+(k:Int)-1) / (k:Int))=((dy n k:Nat):Int):=by
 unfold dy;rw[show(n:Int)+(k:Int)-1=((n+k-1:Nat):Int) by omega];rfl
section
variable {N : Int} {l : List aS} {k i m : Nat}
theorem iN:(fC l k i).length=min k (l.length-i*k):=by unfold fC;rw[List.length_take,List.length_drop]
theorem qX(hk:0<k)(hi:i*k<l.length):fC l k i≠[]:=fun e=>by
 have:=congrArg List.length e;rw[iN]at this;simp at this;omega
theorem jP(hk:0<k)(hi:i*k<l.length):kM (fC l k i)=l[i*k].t:=by
 unfold fC;obtain⟨k,rfl⟩:∃ k',k=k'+1:=⟨k-1,by omega⟩;rw[List.drop_eq_getElem_cons hi,List.take_succ_cons];rfl
theorem cu.mem(h:cu N l):∀ e∈l,(0<=e.t/\e.t<=4611686018427387903)/\0<=e.u/\e.u<e.v/\e.v<N:=fun e he=>by
 have:=h.ok.mem e he;exact⟨this.1,h.u e he,this.2⟩
theorem cu.evM(h:cu N l):∀ e∈fC l k i,(0<=e.t/\e.t<=4611686018427387903)/\0<=e.u/\e.u<e.v/\e.v<N:=fun e he=>h.mem e (List.mem_of_mem_drop (List.mem_of_mem_take he))
theorem cu.keyM(h:cu N l):fZ (eW l k i)/\∀ a∈eW l k i,0<=a.1/\a.1<a.2/\a.2<N:=by
 have ha:=CQ (k:=((i*k:Nat):Int)) h.ok;rw[show((i*k:Nat):Int).toNat=i*k by omega]at ha;refine⟨ha.1,fun a hx=>?_⟩;obtain⟨e,he,rfl⟩:=ha.2 a hx;exact(h.mem e he).2
theorem cu.keyLen(h:cu N l):(eW l k i).length<=49:=by
 have:=ig (l.take (i*k)) [];have:=h.len;unfold eW;rw[List.length_take]at *;simp only[List.length_nil]at *;omega
theorem cu.evLen(h:cu N l):(fC l k i).length<=49:=by have:=h.len;rw[iN];omega
theorem cu.edgesB(h:cu N l):fJ (eW l k i):=fun e he=>by have:=h.keyM.2 e he;have:=h.n;omega
theorem cu.evtsB(h:cu N l):nE (fC l k i):=fun e he=>by have:=h.evM e he;have:=h.n;omega
theorem cu.evOk(h:cu N l):lG N (fC l k i) none (eW l k i):=((h.ok.drop (i*k)).take k).free
theorem cu.blk(h:cu N l)(hk:0<k)(hi:i*k<l.length):qx (kM (fC l k i)) (eW l k i) (fC l k i) :=
 ⟨⟨h.keyM.1,fun e he=>by have:=h.keyM.2 e he;have:=h.n;omega,by have:=h.keyLen (k:=k) (i:=i);omega⟩,qX hk hi,
  h.evOk.delOk h.n.2 (fun e he=>(h.evM e he).2.1) (fun _ e he=>by
   cases hx:fC l k i with
   | nil=>rw[hx]at he;cases he
   | cons a x=>rw[hx]at he;cases he;rfl),h.evOk.fits⟩
theorem cu.err(h:cu N l)(hk:0<k)(hi:i*k<l.length):gz (eW l k i) (fC l k i)=0:=(wH h.edgesB (by have:=h.keyLen (k:=k) (i:=i);omega) h.evtsB).2 (h.blk hk hi)
theorem cu.is(h:cu N l)(hk:0<k)(hi:i*k<l.length):qy (dO l k i) N (kM (fC l k i)) (fC l k i).length (eW l k i) (fC l k i) :=
 ⟨h.blk hk hi,fun e he=>(h.keyM.2 e he).2.2,fun e he=>(h.evM e he).2.2.2,rfl,rfl⟩
theorem kT(n:Nat):0<(cF n).length:=by unfold cF;split <;>simp
theorem cu.blen(h:cu N l)(hk:0<k)(hi:i*k<l.length):1<=(dO l k i).length/\(dO l k i).length<=9480:=by
 have h1:=h.keyLen (k:=k) (i:=i);have h2:=h.evLen (k:=k) (i:=i);have h3:=kb (h.blk hk hi) (by omega) (by omega);have h4:=kT (de (js (eW l k i))).length;refine⟨?_,by unfold dO;omega⟩;unfold dO fk;rw[List.length_append];omega
theorem fo:(eO l k m).length=m:=by unfold eO;simp
theorem lP:eO l k (m+1)=eO l k m++[jD l k m]:=by unfold eO;rw[List.range_succ,List.map_append];rfl
theorem iO:dl l k (m+1)=dl l k m++dO l k m:=by unfold dl;rw[List.range_succ,List.flatMap_append];simp
theorem uA:∀ m,da (eO l k m)=((dl l k m).length:Int)
 | 0=>rfl
 | m+1=>by rw[lP,iO,gi,uA m,List.length_append];unfold da jD;simp
theorem cu.rowN(h:cu N l)(hk:0<k)(hi:i*k<l.length):vi (jD l k i):=by
 have h1:=h.blen hk hi;have h2:=h.mem _ (List.getElem_mem hi);have h3:=qm (dO l k i);refine⟨?_,?_,?_⟩ <;>unfold jD <;>simp only
 ·omega
 ·rw[jP hk hi];exact h2.1
 ·omega
theorem kE:∀ {a b:List el} {last:Int},fX last (a++b)=true↔fX last a=true/\fX ((a.getLast?.map el.first).getD last) b=true
 | [],b,last=>by simp[fX]
 | x ::a,b,last=>by
  rw[List.cons_append,fX,fX,Bool.and_eq_true,Bool.and_eq_true,kE,and_assoc];have:((x ::a).getLast?.map el.first).getD last=(a.getLast?.map el.first).getD x.first:=by
   cases a with
   | nil=>rfl
   | cons y a=>rw[List.getLast?_cons_cons];simp[List.getLast?_cons]
  rw[this]
theorem cu.rowsOk(h:cu N l)(hk:0<k):∀ {m:Nat},m<=dy l.length k->rowsOk (eO l k m)=true
 | 0,_=>rfl
 | m+1,hm=>by
  have ih:=h.rowsOk hk (m:=m) (by omega);have hi:=(dU (n:=l.length) (i:=m) hk).1 (by omega);have hr:=h.rowN hk hi;unfold Go.V.rowsOk at ih ⊢;rw[lP,kE];refine⟨ih,?_⟩;have Ho:((eO l k m).getLast?.map el.first).getD 0<=(jD l k m).first:=by
   cases m with
   | zero=>exact hr.first.1
   | succ m =>
    rw[lP,List.getLast?_append];simp only[List.getLast?_singleton,Option.some_or,Option.map_some,Option.getD_some];have J0:=(dU (n:=l.length) (i:=m) hk).1 (by omega);show kM (fC l k m)<=kM (fC l k (m+1));rw[jP hk J0,jP hk hi];exact h.ok.times.le (Nat.mul_le_mul_right k (by omega)) hi
  unfold fX;rw[Bool.and_eq_true,decide_eq_true_iff];exact⟨⟨hr.len.1,hr.len.2,Ho,hr.first.2⟩,rfl⟩
theorem cu.bodyBy(h:cu N l):By (dO l k i):=fun b hb=>iP _ _ _ b hb
theorem AY:By (dl l k m):=fun b hb=>by
 obtain⟨i,_,hi⟩:=List.mem_flatMap.1 hb;exact iP _ _ _ b hi
theorem ng:By (fx N l k):=(uK _ _ _).append (AY.append (tU _))
theorem qV:(fx N l k).length=24+((dl l k (dy l.length k)).length+(16*dy l.length k+8)):=by
 unfold fx;rw[List.length_append,List.length_append,eE,iY,fo]
theorem cu.bodiesLen(h:cu N l)(hk:0<k):∀ {m:Nat},m<=dy l.length k->(dl l k m).length<=9480*m
 | 0,_=>Nat.zero_le _
 | m+1,hm=>by
  have:=h.bodiesLen hk (m:=m) (by omega);have:=h.blen hk ((dU (n:=l.length) (i:=m) hk).1 (by omega));rw[iO,List.length_append];omega
theorem pH:∀ {m:Nat},i<m->∃ s,dl l k m=dl l k i++(dO l k i++s)
 | 0,h=>absurd h (Nat.not_lt_zero _)
 | m+1,h=>by
  rw[iO];by_cases e:i=m
  ·subst e;exact⟨[],by simp⟩
  ·obtain⟨s,hs⟩:=pH (m:=m) (by omega);exact⟨s++dO l k m,by rw[hs];simp only[List.append_assoc]⟩
theorem AK(hi:i<dy l.length k):((fx N l k).drop (24+(dl l k i).length)).take (dO l k i).length=dO l k i:=by
 obtain⟨s,hs⟩:=pH (l:=l) (k:=k) hi;unfold fx;rw[hs];simp only[List.append_assoc];rw[← List.append_assoc (fE _ _ _)];exact o0 (by rw[List.length_append,eE]) rfl
end
end Go.Proofs.YtlieaecnllkefaaGreat
/-! crc: the walks. -/
namespace Go.Proofs.YtlieaecnllkefaaGreat
open Go Go.V Go.RowKit
theorem Bj{v:Int}:IntKind.wrap .u8 v=v % 256:=by
 have:=eS (k:=.u8) (z:=v % 256) (by simp only[aG];omega);simp only[IntKind.wrap,IntKind.bits,IntKind.signed]at *;simp at *
theorem vH{w:World}{s b:Int}(hb:0<=b/\b<=255):Calls P 71 #[.int .u32 s,.int .u8 b] w fun ev w'=>ev=.returned (.int .u32 (qh s b))/\w'=w:=by
 apply vc71;dsimp only[VC71,Br]
 try simp only[aG]
 refine⟨by omega,fun m s' i w'=>∃ p:Nat,i=(p:Int)/\p<=8/\m=8-p/\s'=xK p (dD .xor .u32 s b)/\w'=w,⟨_,0,rfl,by omega,rfl,rfl,rfl⟩,?_⟩;rintro m s' i w' ⟨p,rfl,hp,rfl,rfl,rfl⟩;have hr:=qk p (j9 s b);have hn:=wC p (dD .xor .u32 s b);unfold y9 at hn;rw[zu hr];refine⟨fun FP=>⟨fun h1=>⟨by omega,by omega,8-(p+1),by omega,p+1,by omega,by omega,rfl,?_,rfl⟩,fun h1=>⟨by omega,by omega,8-(p+1),by omega,p+1,by omega,by omega,rfl,?_,rfl⟩⟩,fun FU=>?_⟩
 ·rw[hn,if_pos h1];rfl
 ·rw[hn,if_neg h1];rfl
 ·have:p=8:=by omega
  subst this;exact⟨rfl,rfl⟩
theorem jJ{w:World}{A B:OA}{n c d:Nat}{l:List Int}(hp:aZ w B [.slice A n c])(hr:aZ w A (bY l))(hn:n=l.length)(hb:By l)(hl:l.length<=2^40):
    Calls P 37 #[.slice B 1 d] w fun ev w'=>ev=.returned (.int .u32 (jw l))/\w'=w:=by
  apply vc37;dsimp only[VC37,Br,Rd,Rs,Ix,cI]
  try simp only[aG]
  refine⟨fun m s i w'=>(i=0/\m=1/\s=4294967295/\w'=w)∨(i=1/\m=0/\s=nt 4294967295 l/\w'=w),⟨_,.inl ⟨rfl,rfl,rfl,rfl⟩⟩,?_⟩;rintro m s i w' (⟨rfl,rfl,rfl,rfl⟩ | ⟨rfl,rfl,rfl,rfl⟩)
  · refine⟨fun _=>?_,fun h=>absurd (show(0:Int)<((1:Nat):Int) by omega) h⟩;obtain⟨b,eB,fB⟩:=hp 0 (.slice A n c) rfl;refine⟨b,eB,by omega,by omega,A,n,c,fB,fun m s i w''=>∃ p:Nat,i=(p:Int)/\p<=l.length/\m=l.length-p/\s=nt 4294967295 (l.take p)/\w''=w',⟨_,0,rfl,by omega,rfl,rfl,rfl⟩,?_⟩;rintro m s i w'' ⟨p,rfl,Jn,rfl,rfl,rfl⟩;have tp:(p:Int).toNat=p:=by omega
    rw[tp];refine⟨fun FP=>?_,fun FU=>?_⟩
    · have lp:p<l.length:=by omega
      obtain⟨a,eA,fA⟩:=hr p (.int .u8 l[p]) (by rw[List.getElem?_map,List.getElem?_eq_getElem lp];rfl);refine⟨a,eA,by omega,by omega,l[p],fA,(vH (hb _ (List.getElem_mem lp))).mono fun ev w3 hh=>?_⟩;obtain⟨rfl,rfl⟩:=hh;refine⟨_,rfl,by omega,l.length-(p+1),by omega,p+1,by omega,by omega,rfl,?_,rfl⟩;rw[List.take_succ_eq_append_getElem lp,qo];rfl
    · have HO:p=l.length:=by omega
      subst HO;rw[List.take_length];exact⟨by omega,0,by omega,.inr ⟨rfl,rfl,rfl,rfl⟩⟩
  · refine⟨fun h=>absurd h (by omega),fun _=>?_⟩;exact⟨rfl,rfl⟩
theorem oG{w:World}{A:OA}{n c:Nat}{l:List Int}(hr:aZ w A (bY l))(hn:n=l.length)(hb:By l)(hl:l.length<=2^30):
    Calls P 62 #[.slice A n c] w fun ev w'=>∃(A':OA)(n' c':Nat),ev=.returned (.slice A' n' c')/\aE w' w.heap.size 5 1 A' n' c' (bY (jA l))/\w.grownBy w' none:=by
  apply vc62;dsimp only[VC62,Br,Ap,cI,cS,nb]
  try simp only[aG]
  refine(ja hr hn (by omega)).mono fun ev w1 hh=>?_;obtain⟨A1,n1,c1,rfl,o1,g1⟩:=hh;have g2:=World.grownBy_alloc w1 (.cells #[.slice A n c] 26) none;have rP:aZ (w1.alloc (.cells #[.slice A n c] 26)) (some ⟨w1.heap.size,0,none⟩) [.slice A n c]:=iB w1 #[.slice A n c] 26;refine⟨_,_,_,rfl,(jJ rP ((hr.kept_none g1).kept_none g2) hn hb (by omega)).mono fun ev w2 hh=>?_⟩;obtain⟨rfl,rfl⟩:=hh;have VJ:=qm l;have HA:=aA g1 g2;refine⟨_,rfl,fun m B k d s i W=>∃ p:Nat,i=(p:Int)/\p<=4/\m=4-p/\aE W w.heap.size 5 1 B k d (bY (l++db (jw l) p))/\s=jw l / 256^p/\w.grownBy W none,⟨_,0,rfl,by omega,rfl,by simpa[db]using o1.kp (S:=fun _=>False) (Kp.of_none g2) (fun _ _ e=>e),by simp,HA⟩,?_⟩;rintro m B k d s i W ⟨p,rfl,hp,rfl,oW,rfl,gW⟩;refine⟨fun FP=>?_,fun FU=>?_⟩
  · have FT:k=l.length+p:=by have:=oW.cases.1;simp[aU]at this;omega
    obtain⟨A3,n3,c3,w3,r3,o3,g3,_⟩:=eJ (x:=IntKind.wrap .u8 (jw l / 256^p)) oW (by omega) gW.size;have ob:=fun q hq=>(World.ownsRow.lt oW q hq).1;refine⟨A3,n3,c3,w3,r3,by omega,by omega,4-(p+1),by omega,p+1,by omega,by omega,rfl,?_,?_,aY gW g3 fun q hq=>ob q hq⟩
    · rw[nT,← List.append_assoc,← Bj];exact o3
    · rw[show(2:Int)^8=256 by decide,Int.ediv_ediv_of_nonneg (Int.le_of_lt (lW p)),← Int.pow_succ]
  · have:p=4:=by omega
    subst this;exact⟨_,_,_,rfl,oW,gW⟩
theorem vq{w:World}{A B:OA}{n c m d:Nat}{a b:List Int}(hA:aZ w A (bY a))(hn:n=a.length)(hB:aZ w B (bY b))(hm:m=b.length)(hl:a.length<=2^40):
    Calls P 119 #[.slice A n c,.slice B m d] w fun ev w'=>ev=.returned (.bool (decide (a=b)))/\w.grownBy w' none:=by
  apply vc119;dsimp only[VC119,rb,Br,Rd,Ix]
  try simp only[aG]
  refine⟨fun FS=>⟨?_,aC _ _⟩,fun Ha=>?_⟩
  · rw[decide_eq_false (fun h=>FS (by rw[hn,hm,h]))]
  have Ke:a.length=b.length:=by omega
  refine⟨fun q i W=>∃ p:Nat,i=(p:Int)/\p<=a.length/\q=a.length-p/\a.take p=b.take p/\w.grownBy W none,⟨_,0,rfl,by omega,rfl,rfl,aC _ _⟩,?_⟩;rintro q i W ⟨p,rfl,hp,rfl,ht,gW⟩;have tp:(p:Int).toNat=p:=by omega
  rw[tp];refine⟨fun FP=>?_,fun FU=>?_⟩
  · have gd:=aI gW;have la:p<a.length:=by omega
    have lb:p<b.length:=by omega
    obtain⟨x,e1,e2⟩:=(hA.kept_none gd) p (.int .u8 a[p]) (by rw[List.getElem?_map,List.getElem?_eq_getElem la];rfl);obtain⟨y,f1,f2⟩:=(hB.kept_none gd) p (.int .u8 b[p]) (by rw[List.getElem?_map,List.getElem?_eq_getElem lb];rfl);refine⟨x,e1,by omega,by omega,_,e2,y,f1,by omega,by omega,_,f2,fun FS=>⟨?_,gd⟩,fun he=>⟨by omega,a.length-(p+1),by omega,p+1,by omega,by omega,rfl,?_,gd⟩⟩
    · rw[decide_eq_false (fun h=>FS (by subst h;rfl))]
    · rw[List.take_succ_eq_append_getElem la,List.take_succ_eq_append_getElem lb,ht,Decidable.not_not.1 he]
  · have:p=a.length:=by omega
    subst this;rw[List.take_length,Ke,List.take_length]at ht;rw[decide_eq_true ht];exact⟨rfl,gW⟩
theorem um{w:World}{A:OA}{n c:Nat}{x:List Int}(hr:aZ w A (bY x))(hn:n=x.length)(hc:n<=c)(hb:By x)(hl:x.length<=2^30)(hs:DY x):
    Calls P 83 #[.slice A n c] w fun ev w'=>∃(A':OA)(n' c':Nat),ev=.returned (.tuple #[.slice A' n' c',.bool true])/\aE w' w.heap.size 5 1 A' n' c' (bY (x.take (x.length-4)))/\w.grownBy w' none:=by
  apply vc83;dsimp only[VC83,rt,Br,cB,cS]
  try simp only[aG]
  have h4:=hs.1;have tn:((n:Int)-4).toNat=x.length-4:=by omega
  rw[tn];have Sr:∀ W,w.grownBy W none->aZ W A (bY (x.take (x.length-4))):=fun W hW j u hj=>by
    rw[List.getElem?_map,List.getElem?_take]at hj;split at hj
    · exact(hr.kept_none hW) j u (by rw[List.getElem?_map];exact hj)
    · simp at hj
  have SK:(x.take (x.length-4)).length=x.length-4:=by rw[List.length_take];omega
  refine⟨by omega,fun h=>absurd h (by omega),fun _=>⟨⟨by omega,by omega⟩,(oG (Sr w (aC _ _)) SK.symm (hb.take _) (by omega)).mono fun ev w1 hh=>?_⟩⟩;obtain⟨A1,n1,c1,rfl,o1,g1⟩:=hh;have Ii:n1=(jA (x.take (x.length-4))).length:=by have:=o1.cases.1;simp at this;omega
  refine⟨_,_,_,rfl,(vq o1.row Ii (hr.kept_none g1) hn (by rw[kQ];omega)).mono fun ev w2 hh=>?_⟩;obtain⟨rfl,g2⟩:=hh;refine⟨_,rfl,fun h=>absurd hs.2.symm (of_decide_eq_false h),fun _=>⟨⟨by omega,by omega⟩,(ja (Sr w2 (aA g1 g2)) SK.symm (by omega)).mono fun ev w3 hh=>?_⟩⟩;obtain⟨A3,n3,c3,rfl,o3,g3⟩:=hh;have s1:=g1.size;have s2:=g2.size;refine⟨_,_,_,rfl,_,_,_,rfl,o3.mono (by omega),aA g1 (aA g2 g3)⟩
end Go.Proofs.YtlieaecnllkefaaGreat

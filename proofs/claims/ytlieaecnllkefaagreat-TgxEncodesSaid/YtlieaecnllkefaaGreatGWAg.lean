/- Own texts, packed: W1, W2, W3, W4, W5. -/
import Derived.Test.YtlieaecnllkefaaGreatGIg
import Derived.Test.YtlieaecnllkefaaGreatGAg
import Derived.Test.YtlieaecnllkefaaGreatGOg
import Derived.Test.YtlieaecnllkefaaGreatGPg
import Derived.Test.YtlieaecnllkefaaGreatGCg
import Derived.Test.YtlieaecnllkefaaGreatGWXg
/-! Numbers in so many bytes, the lowest first. Plain Lean; no program. -/
set_option linter.unusedVariables false
set_option linter.unusedSimpArgs false
set_option maxRecDepth 100000
set_option maxHeartbeats 4000000
namespace Go.V
def df(v:Int):Nat->List Int
 | 0=>[]
 | n+1=>v % 256 ::df (v / 256) n
def hZ:List Int->Int
 | []=>0
 | b ::l=>b+256*hZ l
theorem aU(v:Int):∀ n,(df v n).length=n
 | 0=>rfl
 | n+1=>by show(df (v / 256) n).length+1=n+1;rw[aU]
theorem AN(v:Int)(n:Nat):∀ x∈df v n,0<=x/\x<=255:=by
 induction n generalizing v with
 | zero=>intro x hx;cases hx
 | succ n ih =>
  intro x hx;rcases List.mem_cons.1 hx with rfl | hx
  ·omega
  ·exact ih _ x hx
theorem wY(n:Nat):(256:Int)^(n+1)=256*256^n:=by rw[Int.pow_succ];omega
theorem lK(n:Nat):0<(256:Int)^n:=Int.pow_pos (by omega)
theorem jV:∀ (n:Nat) {v:Int},0<=v->v<256^n->hZ (df v n)=v
 | 0,v,h0,h1=>by simp at h1;show(0:Int)=v;omega
 | n+1,v,h0,h1=>by
  rw[wY]at h1;have h2:v / 256<256^n:=Int.ediv_lt_of_lt_mul (by omega) (by rw[Int.mul_comm];exact h1);show v % 256+256*hZ (df (v / 256) n)=v;rw[jV n (by omega) h2];omega
theorem BK:∀ {l:List Int},(∀ x∈l,0<=x/\x<=255)->0<=hZ l/\hZ l<256^l.length
 | [],_=>by simp[hZ]
 | b ::l,h=>by
  have ih:=BK (l:=l) fun x hx=>h x (by simp[hx]);have hb:=h b (by simp);show 0<=b+256*hZ l/\b+256*hZ l<256^(l.length+1);rw[wY];omega
theorem yE(l m:List Int):hZ (l++m)=hZ l+256^l.length*hZ m:=by
 induction l with
 | nil=>simp[hZ]
 | cons b l ih =>
  show b+256*hZ (l++m)=b+256*hZ l+256^(l.length+1)*hZ m;rw[ih,wY,Int.mul_add,Int.mul_assoc];omega
theorem nO(v:Int)(n:Nat):df v (n+1)=df v n++[v / 256^n % 256]:=by
 induction n generalizing v with
 | zero=>simp[df]
 | succ n ih =>
  show v % 256 ::df (v / 256) (n+1)=v % 256 ::(df (v / 256) n++[v / 256^(n+1) % 256]);rw[ih,wY,Int.ediv_ediv_of_nonneg (by omega)]
end Go.V
/-! Sums of bytes, seals. Plain Lean; no program. -/
namespace Go.V
open Go
theorem Be(x y:Int):dE .xor .u32 x y=((BitVec.ofInt 32 x^^^BitVec.ofInt 32 y).toNat:Int):=by
 show IntKind.u32.wrap ((BitVec.ofInt 32 x^^^BitVec.ofInt 32 y).toNat:Int)=_;have:=(BitVec.ofInt 32 x^^^BitVec.ofInt 32 y).isLt;exact eR (by simp only[aG];omega)
theorem j4(x y:Int):0<=dE .xor .u32 x y/\dE .xor .u32 x y<=4294967295:=by
 rw[Be];have:=(BitVec.ofInt 32 x^^^BitVec.ofInt 32 y).isLt;omega
theorem zr{s:Int}(h:0<=s/\s<=4294967295):dE .xor .u32 4294967295 (dE .xor .u32 4294967295 s)=s:=by
 rw[Be,Be,BitVec.ofInt_natCast,BitVec.ofNat_toNat,BitVec.setWidth_eq,← BitVec.xor_assoc,BitVec.xor_self,BitVec.zero_xor];obtain⟨n,rfl⟩:∃ n:Nat,s=n:=⟨s.toNat,by omega⟩;rw[BitVec.ofInt_natCast,BitVec.toNat_ofNat,Nat.mod_eq_of_lt (by omega)]
theorem zA{s:Int}(h:0<=s/\s<=4294967295):dE .and .u32 s 1=s % 2:=by
 show IntKind.u32.wrap ((BitVec.ofInt 32 s &&& BitVec.ofInt 32 1).toNat:Int)=_;obtain⟨n,rfl⟩:∃ n:Nat,s=n:=⟨s.toNat,by omega⟩;have e:(BitVec.ofInt 32 (n:Int) &&& BitVec.ofInt 32 1).toNat=n % 2:=by
  rw[BitVec.ofInt_natCast,show BitVec.ofInt 32 1=BitVec.ofNat 32 1 from rfl,BitVec.toNat_and,BitVec.toNat_ofNat,BitVec.toNat_ofNat,Nat.mod_eq_of_lt (by omega),show 1 % 2^32=1 from rfl,Nat.and_one_is_mod]
 rw[e,eR (by simp only[aG];omega)];omega
def zf(s:Int):Int:=if s % 2=1 then dE .xor .u32 (s / 2) 3988292384 else s / 2
def xL:Nat->Int->Int
 | 0,s=>s
 | n+1,s=>xL n (zf s)
def qa(s b:Int):Int:=xL 8 (dE .xor .u32 s b)
def np(s:Int):List Int->Int
 | []=>s
 | b ::l=>np (qa s b) l
def jY(l:List Int):Int:=dE .xor .u32 4294967295 (np 4294967295 l)
theorem DV{s:Int}(h:0<=s/\s<=4294967295):0<=zf s/\zf s<=4294967295:=by
 unfold zf;split
 ·exact j4 _ _
 ·omega
theorem qb:∀ (n:Nat) {s:Int},(0<=s/\s<=4294967295)->0<=xL n s/\xL n s<=4294967295
 | 0,s,h=>h
 | n+1,s,h=>qb n (DV h)
theorem wz(n:Nat)(s:Int):xL (n+1) s=zf (xL n s):=by
 induction n generalizing s with
 | zero=>rfl
 | succ n ih=>show xL (n+1) (zf s)=_;rw[ih];rfl
theorem ze(s b:Int):0<=qa s b/\qa s b<=4294967295:=qb 8 (j4 _ _)
theorem wA:∀ (l:List Int) {s:Int},(0<=s/\s<=4294967295)->0<=np s l/\np s l<=4294967295
 | [],s,h=>h
 | b ::l,s,h=>wA l (ze s b)
theorem qd(s:Int)(l m:List Int):np s (l++m)=np (np s l) m:=by
 induction l generalizing s with
 | nil=>rfl
 | cons b l ih=>exact ih _
theorem uT(l:List Int):0<=jY l/\jY l<256^4:=by
 have:=j4 4294967295 (np 4294967295 l);unfold jY;omega
def jw(b:List Int):List Int:=b++df (jY b) 4
theorem kL(b:List Int):(jw b).length=b.length+4:=by unfold jw;rw[List.length_append,aU]
def En(x:List Int):Prop:=4<=x.length/\x=jw (x.take (x.length-4))
theorem mN(b:List Int):En (jw b)/\(jw b).take ((jw b).length-4)=b:=by
 have h:(jw b).take ((jw b).length-4)=b:=by
  rw[kL,show b.length+4-4=b.length by omega];unfold jw;exact List.take_left' rfl
 exact⟨⟨by rw[kL];omega,by rw[h]⟩,h⟩
end Go.V
/-! Heads, rows, as bytes. Plain Lean; no program. -/
namespace Go.V
open Go
def By(l:List Int):Prop:=∀ b∈l,0<=b/\b<=255
theorem By.append{l m:List Int}(h:By l)(h':By m):By (l++m):=fun b hb=>(List.mem_append.1 hb).elim (h b) (h' b)
theorem By.fix(v:Int)(n:Nat):By (df v n):=AN v n
theorem By.sld{l:List Int}(h:By l):By (jw l):=h.append (.fix _ _)
theorem By.take{l:List Int}(h:By l)(n:Nat):By (l.take n):=fun b hb=>h b (List.mem_of_mem_take hb)
theorem By.drop{l:List Int}(h:By l)(n:Nat):By (l.drop n):=fun b hb=>h b (List.mem_of_mem_drop hb)
def dP(N K C:Int):Prop:=N<=4294967296/\1<=K/\K<=1048576/\0<=C/\C<=2147483648
instance (N K C:Int):Decidable (dP N K C):=inferInstanceAs (Decidable (_/\_/\_/\_/\_))
def na(N K C:Int):List Int:=([84,71,88,49]++df N 8)++df K 4++df C 4
def gM(N K C:Int):List Int:=jw (na N K C)
theorem qL(N K C:Int):(na N K C).length=20:=by unfold na;simp only[List.length_append,aU];rfl
theorem fM(N K C:Int):(gM N K C).length=24:=by unfold gM;rw[kL,qL]
theorem uB(N K C:Int):By (na N K C):=by
 unfold na;refine((By.append ?_ (.fix _ _)).append (.fix _ _)).append (.fix _ _);intro b hb;simp at hb;omega
theorem yU(N K C:Int):By (gM N K C):=(uB N K C).sld
theorem km(N K C:Int):gM N K C=[84,71,88,49]++(df N 8++(df K 4++(df C 4++df (jY (na N K C)) 4))):=by
 unfold gM jw;rw[show na N K C=([84,71,88,49]++df N 8)++df K 4++df C 4 from rfl];simp only[List.append_assoc]
theorem qG{l m r:List Int}{a b:Nat}(hl:l.length=a)(hm:m.length=b):((l++(m++r)).drop a).take b=m:=by
 rw[List.drop_left' hl,List.take_left' hm]
theorem yT(N K C:Int)(r:List Int):(gM N K C++r).take 4=[84,71,88,49]:=by
 rw[km,List.append_assoc];rfl
theorem E7(N K C:Int)(r:List Int):((gM N K C++r).drop 4).take 8=df N 8:=by
 rw[km,List.append_assoc,List.append_assoc];exact qG rfl (aU _ _)
theorem E8(N K C:Int)(r:List Int):((gM N K C++r).drop 12).take 4=df K 4:=by
 rw[km];simp only[List.append_assoc];rw[← List.append_assoc [84,71,88,49]];exact qG (by rw[List.length_append,aU];rfl) (aU _ _)
theorem E9(N K C:Int)(r:List Int):((gM N K C++r).drop 16).take 4=df C 4:=by
 rw[km];simp only[List.append_assoc];rw[← List.append_assoc [84,71,88,49],← List.append_assoc ([84,71,88,49]++df N 8)];exact qG (by simp only[List.length_append,aU];rfl) (aU _ _)
structure eG where
 (len first sum:Int)
def iR(r:eG):List Int:=df r.len 4++(df r.first 8++df r.sum 4)
def kN(l:List eG):List Int:=l.flatMap iR++[88,71,84,49]
def kh(l:List eG):List Int:=jw (kN l)
theorem tS(r:eG):(iR r).length=16:=by unfold iR;simp only[List.length_append,aU]
theorem jJ(l:List eG):(l.flatMap iR).length=16*l.length:=by
 induction l with
 | nil=>rfl
 | cons r l ih=>rw[List.flatMap_cons,List.length_append,ih,tS,List.length_cons];omega
theorem kM(l:List eG):(kN l).length=16*l.length+4:=by unfold kN;rw[List.length_append,jJ];rfl
theorem jG(l:List eG):(kh l).length=16*l.length+8:=by unfold kh;rw[kL,kM]
theorem BF(r:eG):By (iR r):=(By.fix _ _).append ((By.fix _ _).append (.fix _ _))
theorem yX(l:List eG):By (l.flatMap iR):=fun b hb=>by
 obtain⟨r,_,hr⟩:=List.mem_flatMap.1 hb;exact BF r b hr
theorem tQ(l:List eG):By (kN l):=(yX l).append fun b hb=>by simp at hb;omega
theorem yi(l:List eG):By (kh l):=(tQ l).sld
def gk(last:Int):List eG->Bool
 | []=>true
 | r ::l=>decide (1<=r.len/\r.len<=4294967295/\last<=r.first/\r.first<=4611686018427387903) && gk r.first l
def rowsOk(l:List eG):Bool:=gk 0 l
def dr(l:List eG):Int:=(l.map eG.len).sum
theorem i6(l m:List eG):dr (l++m)=dr l+dr m:=by unfold dr;rw[List.map_append,List.sum_append]
structure xS(r:eG):Prop where
 len:1<=r.len/\r.len<=4294967295
 first:0<=r.first/\r.first<=4611686018427387903
 sum:0<=r.sum/\r.sum<=4294967295
theorem lG:∀ {l:List eG} {last:Int},gk last l=true->∀ r∈l,(1<=r.len/\r.len<=4294967295)/\last<=r.first/\r.first<=4611686018427387903
 | [],last,_,r,hr=>by cases hr
 | x ::l,last,h,r,hr=>by
  unfold gk at h;rw[Bool.and_eq_true,decide_eq_true_iff]at h;rcases List.mem_cons.1 hr with rfl | hr
  ·exact⟨⟨h.1.1,h.1.2.1⟩,h.1.2.2.1,h.1.2.2.2⟩
  ·have:=lG h.2 r hr;exact⟨this.1,by omega,this.2.2⟩
theorem lS:∀ {l:List eG},(∀ r∈l,1<=r.len)->(l.length:Int)<=dr l
 | [],_=>by simp[dr]
 | x ::l,h=>by
  have ih:=lS (l:=l) fun r hr=>h r (by simp[hr]);have hx:=h x (by simp);have:dr (x ::l)=x.len+dr l:=by unfold dr;simp
  rw[this,List.length_cons];omega
theorem Cy{r:eG}(h:xS r)(s:List Int):hZ ((iR r++s).take 4)=r.len/\hZ (((iR r++s).drop 4).take 8)=r.first/\hZ (((iR r++s).drop 12).take 4)=r.sum:=by
 obtain⟨h1,h2,h3⟩:=h;refine⟨?_,?_,?_⟩
 ·unfold iR;rw[List.append_assoc,List.take_left' (aU _ _),jV 4 (by omega) (by omega)]
 ·unfold iR;rw[List.append_assoc,List.append_assoc,qG (aU _ _) (aU _ _),jV 8 (by omega) (by omega)]
 ·unfold iR;rw[← List.append_assoc (df r.len 4),List.append_assoc (df r.len 4++df r.first 8),qG (by simp only[List.length_append,aU]) (aU _ _),jV 4 (by omega) (by omega)]
end Go.V
/-! Files of histories, as bytes. Lists alone. -/
namespace Go.Proofs.YtlieaecnllkefaaGreat
open Go Go.V Go.RowKit
structure cH(N:Int)(l:List aR):Prop where
 ok:lx N l none []
 u:∀ e∈l,0<=e.u
 len:l.length<=49
 n:0<=N/\N<=4294967296
def iw(l:List aR)(k i:Nat):List Edge:=dt (l.take (i*k)) []
def gi(l:List aR)(k i:Nat):List aR:=(l.drop (i*k)).take k
def dy(l:List aR)(k i:Nat):List Int:=fy (nQ (gi l k i)) (iw l k i) (gi l k i)
def iQ(l:List aR)(k i:Nat):eG:=⟨((dy l k i).length:Int),nQ (gi l k i),jY (dy l k i)⟩
def fL(n k:Nat):Nat:=(n+k-1) / k
def cV(l:List aR)(k m:Nat):List Int:=(List.range m).flatMap (dy l k)
def d9(l:List aR)(k m:Nat):List eG:=(List.range m).map (iQ l k)
def fe(N:Int)(l:List aR)(k:Nat):List Int:=gM N k l.length++(cV l k (fL l.length k)++kh (d9 l k (fL l.length k)))
theorem fK{n k i:Nat}(hk:0<k):i<fL n k↔i*k<n:=by
 unfold fL;rw[Nat.lt_iff_add_one_le,Nat.le_div_iff_mul_le hk,Nat.add_mul,Nat.one_mul];omega
theorem pN{n k:Nat}(hk:0<k):fL n k<=n:=by
 by_cases h:fL n k=0
 ·omega
 ·have:=(fK (n:=n) (i:=fL n k-1) hk).1 (by omega);have h1:fL n k-1<=(fL n k-1)*k:=Nat.le_mul_of_pos_right _ hk;omega
theorem Au{n k:Nat}(hk:0<k):n<=fL n k*k:=by
 have:=(fK (n:=n) (k:=k) (i:=fL n k) hk);omega
theorem pO{n k:Nat}(hk:0<k):(((n:Int)+(k:Int)-1) / (k:Int))=((fL n k:Nat):Int):=by
 unfold fL;rw[show(n:Int)+(k:Int)-1=((n+k-1:Nat):Int) by omega];rfl
section
variable {N : Int} {l : List aR} {k i m : Nat}
theorem ko:(gi l k i).length=min k (l.length-i*k):=by unfold gi;rw[List.length_take,List.length_drop]
theorem xE(hk:0<k)(hi:i*k<l.length):gi l k i≠[]:=fun e=>by
 have:=congrArg List.length e;rw[ko]at this;simp at this;omega
theorem qQ(hk:0<k)(hi:i*k<l.length):nQ (gi l k i)=l[i*k].t:=by
 unfold gi;obtain⟨k,rfl⟩:∃ k',k=k'+1:=⟨k-1,by omega⟩;rw[List.drop_eq_getElem_cons hi,List.take_succ_cons];rfl
theorem cH.mem(h:cH N l):∀ e∈l,(0<=e.t/\e.t<=4611686018427387903)/\0<=e.u/\e.u<e.v/\e.v<N:=fun e he=>by
 have:=h.ok.mem e he;exact⟨this.1,h.u e he,this.2⟩
theorem cH.evM(h:cH N l):∀ e∈gi l k i,(0<=e.t/\e.t<=4611686018427387903)/\0<=e.u/\e.u<e.v/\e.v<N:=fun e he=>h.mem e (List.mem_of_mem_drop (List.mem_of_mem_take he))
theorem cH.keyM(h:cH N l):fV (iw l k i)/\∀ a∈iw l k i,0<=a.1/\a.1<a.2/\a.2<N:=by
 have ha:=C2 (k:=((i*k:Nat):Int)) h.ok;rw[show((i*k:Nat):Int).toNat=i*k by omega]at ha;refine⟨ha.1,fun a hx=>?_⟩;obtain⟨e,he,rfl⟩:=ha.2 a hx;exact(h.mem e he).2
theorem cH.keyLen(h:cH N l):(iw l k i).length<=49:=by
 have:=fN (l.take (i*k)) [];have:=h.len;unfold iw;rw[List.length_take]at *;simp only[List.length_nil]at *;omega
theorem cH.evLen(h:cH N l):(gi l k i).length<=49:=by have:=h.len;rw[ko];omega
theorem cH.edgesB(h:cH N l):fE (iw l k i):=fun e he=>by have:=h.keyM.2 e he;have:=h.n;omega
theorem cH.evtsB(h:cH N l):nC (gi l k i):=fun e he=>by have:=h.evM e he;have:=h.n;omega
theorem cH.evOk(h:cH N l):lx N (gi l k i) none (iw l k i):=((h.ok.drop (i*k)).take k).free
theorem cH.blk(h:cH N l)(hk:0<k)(hi:i*k<l.length):wI (nQ (gi l k i)) (iw l k i) (gi l k i) :=
 ⟨⟨h.keyM.1,fun e he=>by have:=h.keyM.2 e he;have:=h.n;omega,by have:=h.keyLen (k:=k) (i:=i);omega⟩,xE hk hi,
  h.evOk.delOk h.n.2 (fun e he=>(h.evM e he).2.1) (fun _ e he=>by
   cases hx:gi l k i with
   | nil=>rw[hx]at he;cases he
   | cons a x=>rw[hx]at he;cases he;rfl),h.evOk.fits⟩
theorem cH.err(h:cH N l)(hk:0<k)(hi:i*k<l.length):gu (iw l k i) (gi l k i)=0:=(wE h.edgesB (by have:=h.keyLen (k:=k) (i:=i);omega) h.evtsB).2 (h.blk hk hi)
theorem cH.is(h:cH N l)(hk:0<k)(hi:i*k<l.length):sI (dy l k i) N (nQ (gi l k i)) (gi l k i).length (iw l k i) (gi l k i) :=
 ⟨h.blk hk hi,fun e he=>(h.keyM.2 e he).2.2,fun e he=>(h.evM e he).2.2.2,rfl,rfl⟩
theorem mR(n:Nat):0<(cJ n).length:=by unfold cJ;split <;>simp
theorem cH.blen(h:cH N l)(hk:0<k)(hi:i*k<l.length):1<=(dy l k i).length/\(dy l k i).length<=9480:=by
 have h1:=h.keyLen (k:=k) (i:=i);have h2:=h.evLen (k:=k) (i:=i);have h3:=uZ (h.blk hk hi) (by omega) (by omega);have h4:=mR (dj (jt (iw l k i))).length;refine⟨?_,by unfold dy;omega⟩;unfold dy fy;rw[List.length_append];omega
theorem dY:(d9 l k m).length=m:=by unfold d9;simp
theorem jS:d9 l k (m+1)=d9 l k m++[iQ l k m]:=by unfold d9;rw[List.range_succ,List.map_append];rfl
theorem iF:cV l k (m+1)=cV l k m++dy l k m:=by unfold cV;rw[List.range_succ,List.flatMap_append];simp
theorem uu:∀ m,dr (d9 l k m)=((cV l k m).length:Int)
 | 0=>rfl
 | m+1=>by rw[jS,iF,i6,uu m,List.length_append];unfold dr iQ;simp
theorem cH.rowN(h:cH N l)(hk:0<k)(hi:i*k<l.length):xS (iQ l k i):=by
 have h1:=h.blen hk hi;have h2:=h.mem _ (List.getElem_mem hi);have h3:=uT (dy l k i);refine⟨?_,?_,?_⟩ <;>unfold iQ <;>simp only
 ·omega
 ·rw[qQ hk hi];exact h2.1
 ·omega
theorem nT:∀ {a b:List eG} {last:Int},gk last (a++b)=true↔gk last a=true/\gk ((a.getLast?.map eG.first).getD last) b=true
 | [],b,last=>by simp[gk]
 | x ::a,b,last=>by
  rw[List.cons_append,gk,gk,Bool.and_eq_true,Bool.and_eq_true,nT,and_assoc];have:((x ::a).getLast?.map eG.first).getD last=(a.getLast?.map eG.first).getD x.first:=by
   cases a with
   | nil=>rfl
   | cons y a=>rw[List.getLast?_cons_cons];simp[List.getLast?_cons]
  rw[this]
theorem cH.rowsOk(h:cH N l)(hk:0<k):∀ {m:Nat},m<=fL l.length k->rowsOk (d9 l k m)=true
 | 0,_=>rfl
 | m+1,hm=>by
  have ih:=h.rowsOk hk (m:=m) (by omega);have hi:=(fK (n:=l.length) (i:=m) hk).1 (by omega);have hr:=h.rowN hk hi;unfold Go.V.rowsOk at ih ⊢;rw[jS,nT];refine⟨ih,?_⟩;have It:((d9 l k m).getLast?.map eG.first).getD 0<=(iQ l k m).first:=by
   cases m with
   | zero=>exact hr.first.1
   | succ m =>
    rw[jS,List.getLast?_append];simp only[List.getLast?_singleton,Option.some_or,Option.map_some,Option.getD_some];have KZ:=(fK (n:=l.length) (i:=m) hk).1 (by omega);show nQ (gi l k m)<=nQ (gi l k (m+1));rw[qQ hk KZ,qQ hk hi];exact h.ok.times.le (Nat.mul_le_mul_right k (by omega)) hi
  unfold gk;rw[Bool.and_eq_true,decide_eq_true_iff];exact⟨⟨hr.len.1,hr.len.2,It,hr.first.2⟩,rfl⟩
theorem cH.bodyBy(h:cH N l):By (dy l k i):=fun b hb=>mr _ _ _ b hb
theorem Bg:By (cV l k m):=fun b hb=>by
 obtain⟨i,_,hi⟩:=List.mem_flatMap.1 hb;exact mr _ _ _ b hi
theorem pX:By (fe N l k):=(yU _ _ _).append (Bg.append (yi _))
theorem qN:(fe N l k).length=24+((cV l k (fL l.length k)).length+(16*fL l.length k+8)):=by
 unfold fe;rw[List.length_append,List.length_append,fM,jG,dY]
theorem cH.bodiesLen(h:cH N l)(hk:0<k):∀ {m:Nat},m<=fL l.length k->(cV l k m).length<=9480*m
 | 0,_=>Nat.zero_le _
 | m+1,hm=>by
  have:=h.bodiesLen hk (m:=m) (by omega);have:=h.blen hk ((fK (n:=l.length) (i:=m) hk).1 (by omega));rw[iF,List.length_append];omega
theorem px:∀ {m:Nat},i<m->∃ s,cV l k m=cV l k i++(dy l k i++s)
 | 0,h=>absurd h (Nat.not_lt_zero _)
 | m+1,h=>by
  rw[iF];by_cases e:i=m
  ·subst e;exact⟨[],by simp⟩
  ·obtain⟨s,hs⟩:=px (m:=m) (by omega);exact⟨s++dy l k m,by rw[hs];simp only[List.append_assoc]⟩
theorem AR(hi:i<fL l.length k):((fe N l k).drop (24+(cV l k i).length)).take (dy l k i).length=dy l k i:=by
 obtain⟨s,hs⟩:=px (l:=l) (k:=k) hi;unfold fe;rw[hs];simp only[List.append_assoc];rw[← List.append_assoc (gM _ _ _)];exact qG (by rw[List.length_append,fM]) rfl
end
end Go.Proofs.YtlieaecnllkefaaGreat
/-! crc: the walks. -/
namespace Go.Proofs.YtlieaecnllkefaaGreat
open Go Go.V Go.RowKit
theorem Bv{v:Int}:IntKind.wrap .u8 v=v % 256:=by
 have:=eR (k:=.u8) (z:=v % 256) (by simp only[aG];omega);simp only[IntKind.wrap,IntKind.bits,IntKind.signed]at *;simp at *
theorem vE{w:World}{s b:Int}(hb:0<=b/\b<=255):Calls P 71 #[.int .u32 s,.int .u8 b] w fun ev w'=>ev=.returned (.int .u32 (qa s b))/\w'=w:=by
 apply vc71;dsimp only[VC71,Br]
 try simp only[aG]
 refine⟨by omega,fun m s' i w'=>∃ p:Nat,i=(p:Int)/\p<=8/\m=8-p/\s'=xL p (dE .xor .u32 s b)/\w'=w,⟨_,0,rfl,by omega,rfl,rfl,rfl⟩,?_⟩;rintro m s' i w' ⟨p,rfl,hp,rfl,rfl,rfl⟩;have hr:=qb p (j4 s b);have hn:=wz p (dE .xor .u32 s b);unfold zf at hn;rw[zA hr];refine⟨fun Ge=>⟨fun h1=>⟨by omega,by omega,8-(p+1),by omega,p+1,by omega,by omega,rfl,?_,rfl⟩,fun h1=>⟨by omega,by omega,8-(p+1),by omega,p+1,by omega,by omega,rfl,?_,rfl⟩⟩,fun Gj=>?_⟩
 ·rw[hn,if_pos h1];rfl
 ·rw[hn,if_neg h1];rfl
 ·have:p=8:=by omega
  subst this;exact⟨rfl,rfl⟩
theorem mj{w:World}{A B:OA}{n c d:Nat}{l:List Int}(hp:aY w B [.slice A n c])(hr:aY w A (cy l))(hn:n=l.length)(hb:By l)(hl:l.length<=2^40):
    Calls P 37 #[.slice B 1 d] w fun ev w'=>ev=.returned (.int .u32 (jY l))/\w'=w:=by
  apply vc37;dsimp only[VC37,Br,Rd,Rs,Ix,cI]
  try simp only[aG]
  refine⟨fun m s i w'=>(i=0/\m=1/\s=4294967295/\w'=w)∨(i=1/\m=0/\s=np 4294967295 l/\w'=w),⟨_,.inl ⟨rfl,rfl,rfl,rfl⟩⟩,?_⟩;rintro m s i w' (⟨rfl,rfl,rfl,rfl⟩ | ⟨rfl,rfl,rfl,rfl⟩)
  · refine⟨fun _=>?_,fun h=>absurd (show(0:Int)<((1:Nat):Int) by omega) h⟩;obtain⟨b,eB,fB⟩:=hp 0 (.slice A n c) rfl;refine⟨b,eB,by omega,by omega,A,n,c,fB,fun m s i w''=>∃ p:Nat,i=(p:Int)/\p<=l.length/\m=l.length-p/\s=np 4294967295 (l.take p)/\w''=w',⟨_,0,rfl,by omega,rfl,rfl,rfl⟩,?_⟩;rintro m s i w'' ⟨p,rfl,JG,rfl,rfl,rfl⟩;have tp:(p:Int).toNat=p:=by omega
    rw[tp];refine⟨fun Ge=>?_,fun Gj=>?_⟩
    · have lp:p<l.length:=by omega
      obtain⟨a,eA,fA⟩:=hr p (.int .u8 l[p]) (by rw[List.getElem?_map,List.getElem?_eq_getElem lp];rfl);refine⟨a,eA,by omega,by omega,l[p],fA,(vE (hb _ (List.getElem_mem lp))).mono fun ev w3 hh=>?_⟩;obtain⟨rfl,rfl⟩:=hh;refine⟨_,rfl,by omega,l.length-(p+1),by omega,p+1,by omega,by omega,rfl,?_,rfl⟩;rw[List.take_succ_eq_append_getElem lp,qd];rfl
    · have Ig:p=l.length:=by omega
      subst Ig;rw[List.take_length];exact⟨by omega,0,by omega,.inr ⟨rfl,rfl,rfl,rfl⟩⟩
  · refine⟨fun h=>absurd h (by omega),fun _=>?_⟩;exact⟨rfl,rfl⟩
theorem ou{w:World}{A:OA}{n c:Nat}{l:List Int}(hr:aY w A (cy l))(hn:n=l.length)(hb:By l)(hl:l.length<=2^30):
    Calls P 62 #[.slice A n c] w fun ev w'=>∃(A':OA)(n' c':Nat),ev=.returned (.slice A' n' c')/\aE w' w.heap.size 5 1 A' n' c' (cy (jw l))/\w.grownBy w' none:=by
  apply vc62;dsimp only[VC62,Br,Ap,cI,cS,nb]
  try simp only[aG]
  refine(iW hr hn (by omega)).mono fun ev w1 hh=>?_;obtain⟨A1,n1,c1,rfl,o1,g1⟩:=hh;have g2:=World.grownBy_alloc w1 (.cells #[.slice A n c] 26) none;have rP:aY (w1.alloc (.cells #[.slice A n c] 26)) (some ⟨w1.heap.size,0,none⟩) [.slice A n c]:=im w1 #[.slice A n c] 26;refine⟨_,_,_,rfl,(mj rP ((hr.kept_none g1).kept_none g2) hn hb (by omega)).mono fun ev w2 hh=>?_⟩;obtain⟨rfl,rfl⟩:=hh;have Wl:=uT l;have HD:=aA g1 g2;refine⟨_,rfl,fun m B k d s i W=>∃ p:Nat,i=(p:Int)/\p<=4/\m=4-p/\aE W w.heap.size 5 1 B k d (cy (l++df (jY l) p))/\s=jY l / 256^p/\w.grownBy W none,⟨_,0,rfl,by omega,rfl,by simpa[df]using o1.kp (S:=fun _=>False) (Kp.of_none g2) (fun _ _ e=>e),by simp,HD⟩,?_⟩;rintro m B k d s i W ⟨p,rfl,hp,rfl,oW,rfl,gW⟩;refine⟨fun Ge=>?_,fun Gj=>?_⟩
  · have Gi:k=l.length+p:=by have:=oW.cases.1;simp[aU]at this;omega
    obtain⟨A3,n3,c3,w3,r3,o3,g3,_⟩:=eO (x:=IntKind.wrap .u8 (jY l / 256^p)) oW (by omega) gW.size;have ob:=fun q hq=>(World.ownsRow.lt oW q hq).1;refine⟨A3,n3,c3,w3,r3,by omega,by omega,4-(p+1),by omega,p+1,by omega,by omega,rfl,?_,?_,aX gW g3 fun q hq=>ob q hq⟩
    · rw[nO,← List.append_assoc,← Bv];exact o3
    · rw[show(2:Int)^8=256 by decide,Int.ediv_ediv_of_nonneg (Int.le_of_lt (lK p)),← Int.pow_succ]
  · have:p=4:=by omega
    subst this;exact⟨_,_,_,rfl,oW,gW⟩
theorem vl{w:World}{A B:OA}{n c m d:Nat}{a b:List Int}(hA:aY w A (cy a))(hn:n=a.length)(hB:aY w B (cy b))(hm:m=b.length)(hl:a.length<=2^40):
    Calls P 119 #[.slice A n c,.slice B m d] w fun ev w'=>ev=.returned (.bool (decide (a=b)))/\w.grownBy w' none:=by
  apply vc119;dsimp only[VC119,rb,Br,Rd,Ix]
  try simp only[aG]
  refine⟨fun Gh=>⟨?_,aC _ _⟩,fun Hu=>?_⟩
  · rw[decide_eq_false (fun h=>Gh (by rw[hn,hm,h]))]
  have Ku:a.length=b.length:=by omega
  refine⟨fun q i W=>∃ p:Nat,i=(p:Int)/\p<=a.length/\q=a.length-p/\a.take p=b.take p/\w.grownBy W none,⟨_,0,rfl,by omega,rfl,rfl,aC _ _⟩,?_⟩;rintro q i W ⟨p,rfl,hp,rfl,ht,gW⟩;have tp:(p:Int).toNat=p:=by omega
  rw[tp];refine⟨fun Ge=>?_,fun Gj=>?_⟩
  · have gd:=aH gW;have la:p<a.length:=by omega
    have lb:p<b.length:=by omega
    obtain⟨x,e1,e2⟩:=(hA.kept_none gd) p (.int .u8 a[p]) (by rw[List.getElem?_map,List.getElem?_eq_getElem la];rfl);obtain⟨y,f1,f2⟩:=(hB.kept_none gd) p (.int .u8 b[p]) (by rw[List.getElem?_map,List.getElem?_eq_getElem lb];rfl);refine⟨x,e1,by omega,by omega,_,e2,y,f1,by omega,by omega,_,f2,fun Gh=>⟨?_,gd⟩,fun he=>⟨by omega,a.length-(p+1),by omega,p+1,by omega,by omega,rfl,?_,gd⟩⟩
    · rw[decide_eq_false (fun h=>Gh (by subst h;rfl))]
    · rw[List.take_succ_eq_append_getElem la,List.take_succ_eq_append_getElem lb,ht,Decidable.not_not.1 he]
  · have:p=a.length:=by omega
    subst this;rw[List.take_length,Ku,List.take_length]at ht;rw[decide_eq_true ht];exact⟨rfl,gW⟩
theorem uj{w:World}{A:OA}{n c:Nat}{x:List Int}(hr:aY w A (cy x))(hn:n=x.length)(hc:n<=c)(hb:By x)(hl:x.length<=2^30)(hs:En x):
    Calls P 83 #[.slice A n c] w fun ev w'=>∃(A':OA)(n' c':Nat),ev=.returned (.tuple #[.slice A' n' c',.bool true])/\aE w' w.heap.size 5 1 A' n' c' (cy (x.take (x.length-4)))/\w.grownBy w' none:=by
  apply vc83;dsimp only[VC83,rt,Br,cB,cS]
  try simp only[aG]
  have h4:=hs.1;have tn:((n:Int)-4).toNat=x.length-4:=by omega
  rw[tn];have ST:∀ W,w.grownBy W none->aY W A (cy (x.take (x.length-4))):=fun W hW j u hj=>by
    rw[List.getElem?_map,List.getElem?_take]at hj;split at hj
    · exact(hr.kept_none hW) j u (by rw[List.getElem?_map];exact hj)
    · simp at hj
  have Tk:(x.take (x.length-4)).length=x.length-4:=by rw[List.length_take];omega
  refine⟨by omega,fun h=>absurd h (by omega),fun _=>⟨⟨by omega,by omega⟩,(ou (ST w (aC _ _)) Tk.symm (hb.take _) (by omega)).mono fun ev w1 hh=>?_⟩⟩;obtain⟨A1,n1,c1,rfl,o1,g1⟩:=hh;have IR:n1=(jw (x.take (x.length-4))).length:=by have:=o1.cases.1;simp at this;omega
  refine⟨_,_,_,rfl,(vl o1.row IR (hr.kept_none g1) hn (by rw[kL];omega)).mono fun ev w2 hh=>?_⟩;obtain⟨rfl,g2⟩:=hh;refine⟨_,rfl,fun h=>absurd hs.2.symm (of_decide_eq_false h),fun _=>⟨⟨by omega,by omega⟩,(iW (ST w2 (aA g1 g2)) Tk.symm (by omega)).mono fun ev w3 hh=>?_⟩⟩;obtain⟨A3,n3,c3,rfl,o3,g3⟩:=hh;have s1:=g1.size;have s2:=g2.size;refine⟨_,_,_,rfl,_,_,_,rfl,o3.mono (by omega),aA g1 (aA g2 g3)⟩
end Go.Proofs.YtlieaecnllkefaaGreat

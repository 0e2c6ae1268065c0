/- Own texts, packed: W1, W2, W3, W4, W5. -/
import Derived.Test.YtlieaecnllkefaaGreatGIg
import Derived.Test.YtlieaecnllkefaaGreatGAg
import Derived.Test.YtlieaecnllkefaaGreatGOg
import Derived.Test.YtlieaecnllkefaaGreatGPg
import Derived.Test.YtlieaecnllkefaaGreatGCg
import Derived.Test.YtlieaecnllkefaaGreatGWXg
/-! Numbers in so many bytes, the lowest first. Plain Lean; no program. -/
set_option linter.unusedVariables false
set_option linter.unusedSimpArgs false
set_option maxRecDepth 100000
set_option maxHeartbeats 4000000
namespace Go.V
def dL(v:Int):Nat->List Int
 | 0=>[]
 | n+1=>v % 256 ::dL (v / 256) n
def hZ:List Int->Int
 | []=>0
 | b ::l=>b+256*hZ l
theorem bI(v:Int):∀ n,(dL v n).length=n
 | 0=>rfl
 | n+1=>by show(dL (v / 256) n).length+1=n+1;rw[bI]
theorem Ai(v:Int)(n:Nat):∀ x∈dL v n,0<=x/\x<=255:=by
 induction n generalizing v with
 | zero=>intro x hx;cases hx
 | succ n ih =>
  intro x hx;rcases List.mem_cons.1 hx with rfl | hx
  ·omega
  ·exact ih _ x hx
theorem wI(n:Nat):(256:Int)^(n+1)=256*256^n:=by rw[Int.pow_succ];omega
theorem lE(n:Nat):0<(256:Int)^n:=Int.pow_pos (by omega)
theorem jL:∀ (n:Nat) {v:Int},0<=v->v<256^n->hZ (dL v n)=v
 | 0,v,h0,h1=>by simp at h1;show(0:Int)=v;omega
 | n+1,v,h0,h1=>by
  rw[wI]at h1;have h2:v / 256<256^n:=Int.ediv_lt_of_lt_mul (by omega) (by rw[Int.mul_comm];exact h1);show v % 256+256*hZ (dL (v / 256) n)=v;rw[jL n (by omega) h2];omega
theorem Bi:∀ {l:List Int},(∀ x∈l,0<=x/\x<=255)->0<=hZ l/\hZ l<256^l.length
 | [],_=>by simp[hZ]
 | b ::l,h=>by
  have ih:=Bi (l:=l) fun x hx=>h x (by simp[hx]);have hb:=h b (by simp);show 0<=b+256*hZ l/\b+256*hZ l<256^(l.length+1);rw[wI];omega
theorem yg(l m:List Int):hZ (l++m)=hZ l+256^l.length*hZ m:=by
 induction l with
 | nil=>simp[hZ]
 | cons b l ih =>
  show b+256*hZ (l++m)=b+256*hZ l+256^(l.length+1)*hZ m;rw[ih,wI,Int.mul_add,Int.mul_assoc];omega
theorem qI(v:Int)(n:Nat):dL v (n+1)=dL v n++[v / 256^n % 256]:=by
 induction n generalizing v with
 | zero=>simp[dL]
 | succ n ih =>
  show v % 256 ::dL (v / 256) (n+1)=v % 256 ::(dL (v / 256) n++[v / 256^(n+1) % 256]);rw[ih,wI,Int.ediv_ediv_of_nonneg (by omega)]
end Go.V
/-! Sums of bytes, seals. Plain Lean; no program. -/
namespace Go.V
open Go
theorem AE(x y:Int):dE .xor .u32 x y=((BitVec.ofInt 32 x^^^BitVec.ofInt 32 y).toNat:Int):=by
 show IntKind.u32.wrap ((BitVec.ofInt 32 x^^^BitVec.ofInt 32 y).toNat:Int)=_;have:=(BitVec.ofInt 32 x^^^BitVec.ofInt 32 y).isLt;exact eW (by simp only[aF];omega)
theorem pC(x y:Int):0<=dE .xor .u32 x y/\dE .xor .u32 x y<=4294967295:=by
 rw[AE];have:=(BitVec.ofInt 32 x^^^BitVec.ofInt 32 y).isLt;omega
theorem Fe{s:Int}(h:0<=s/\s<=4294967295):dE .xor .u32 4294967295 (dE .xor .u32 4294967295 s)=s:=by
 rw[AE,AE,BitVec.ofInt_natCast,BitVec.ofNat_toNat,BitVec.setWidth_eq,← BitVec.xor_assoc,BitVec.xor_self,BitVec.zero_xor];obtain⟨n,rfl⟩:∃ n:Nat,s=n:=⟨s.toNat,by omega⟩;rw[BitVec.ofInt_natCast,BitVec.toNat_ofNat,Nat.mod_eq_of_lt (by omega)]
theorem DO{s:Int}(h:0<=s/\s<=4294967295):dE .and .u32 s 1=s % 2:=by
 show IntKind.u32.wrap ((BitVec.ofInt 32 s &&& BitVec.ofInt 32 1).toNat:Int)=_;obtain⟨n,rfl⟩:∃ n:Nat,s=n:=⟨s.toNat,by omega⟩;have e:(BitVec.ofInt 32 (n:Int) &&& BitVec.ofInt 32 1).toNat=n % 2:=by
  rw[BitVec.ofInt_natCast,show BitVec.ofInt 32 1=BitVec.ofNat 32 1 from rfl,BitVec.toNat_and,BitVec.toNat_ofNat,BitVec.toNat_ofNat,Nat.mod_eq_of_lt (by omega),show 1 % 2^32=1 from rfl,Nat.and_one_is_mod]
 rw[e,eW (by simp only[aF];omega)];omega
def Az(s:Int):Int:=if s % 2=1 then dE .xor .u32 (s / 2) 3988292384 else s / 2
def yQ:Nat->Int->Int
 | 0,s=>s
 | n+1,s=>yQ n (Az s)
def BA(s b:Int):Int:=yQ 8 (dE .xor .u32 s b)
def se(s:Int):List Int->Int
 | []=>s
 | b ::l=>se (BA s b) l
def px(l:List Int):Int:=dE .xor .u32 4294967295 (se 4294967295 l)
theorem Dz{s:Int}(h:0<=s/\s<=4294967295):0<=Az s/\Az s<=4294967295:=by
 unfold Az;split
 ·exact pC _ _
 ·omega
theorem yP:∀ (n:Nat) {s:Int},(0<=s/\s<=4294967295)->0<=yQ n s/\yQ n s<=4294967295
 | 0,s,h=>h
 | n+1,s,h=>yP n (Dz h)
theorem Ct(n:Nat)(s:Int):yQ (n+1) s=Az (yQ n s):=by
 induction n generalizing s with
 | zero=>rfl
 | succ n ih=>show yQ (n+1) (Az s)=_;rw[ih];rfl
theorem xr(s:Int)(l m:List Int):se s (l++m)=se (se s l) m:=by
 induction l generalizing s with
 | nil=>rfl
 | cons b l ih=>exact ih _
theorem yR(l:List Int):0<=px l/\px l<256^4:=by
 have:=pC 4294967295 (se 4294967295 l);unfold px;omega
def jI(b:List Int):List Int:=b++dL (px b) 4
theorem kA(b:List Int):(jI b).length=b.length+4:=by unfold jI;rw[List.length_append,bI]
def DS(x:List Int):Prop:=4<=x.length/\x=jI (x.take (x.length-4))
theorem mI(b:List Int):DS (jI b)/\(jI b).take ((jI b).length-4)=b:=by
 have h:(jI b).take ((jI b).length-4)=b:=by
  rw[kA,show b.length+4-4=b.length by omega];unfold jI;exact List.take_left' rfl
 exact⟨⟨by rw[kA];omega,by rw[h]⟩,h⟩
end Go.V
/-! Heads, rows, as bytes. Plain Lean; no program. -/
namespace Go.V
open Go
def By(l:List Int):Prop:=∀ b∈l,0<=b/\b<=255
theorem By.append{l m:List Int}(h:By l)(h':By m):By (l++m):=fun b hb=>(List.mem_append.1 hb).elim (h b) (h' b)
theorem By.fix(v:Int)(n:Nat):By (dL v n):=Ai v n
theorem By.sld{l:List Int}(h:By l):By (jI l):=h.append (.fix _ _)
theorem By.take{l:List Int}(h:By l)(n:Nat):By (l.take n):=fun b hb=>h b (List.mem_of_mem_take hb)
theorem By.drop{l:List Int}(h:By l)(n:Nat):By (l.drop n):=fun b hb=>h b (List.mem_of_mem_drop hb)
def fe(N K C:Int):Prop:=N<=4294967296/\1<=K/\K<=1048576/\0<=C/\C<=2147483648
instance (N K C:Int):Decidable (fe N K C):=inferInstanceAs (Decidable (_/\_/\_/\_/\_))
def pU(N K C:Int):List Int:=([84,71,88,49]++dL N 8)++dL K 4++dL C 4
def ji(N K C:Int):List Int:=jI (pU N K C)
theorem vZ(N K C:Int):(pU N K C).length=20:=by unfold pU;simp only[List.length_append,bI];rfl
theorem gG(N K C:Int):(ji N K C).length=24:=by unfold ji;rw[kA,vZ]
theorem yB(N K C:Int):By (pU N K C):=by
 unfold pU;refine((By.append ?_ (.fix _ _)).append (.fix _ _)).append (.fix _ _);intro b hb;simp at hb;omega
theorem yD(N K C:Int):By (ji N K C):=(yB N K C).sld
theorem j8(N K C:Int):ji N K C=[84,71,88,49]++(dL N 8++(dL K 4++(dL C 4++dL (px (pU N K C)) 4))):=by
 unfold ji jI;rw[show pU N K C=([84,71,88,49]++dL N 8)++dL K 4++dL C 4 from rfl];simp only[List.append_assoc]
theorem qD{l m r:List Int}{a b:Nat}(hl:l.length=a)(hm:m.length=b):((l++(m++r)).drop a).take b=m:=by
 rw[List.drop_left' hl,List.take_left' hm]
theorem yC(N K C:Int)(r:List Int):(ji N K C++r).take 4=[84,71,88,49]:=by
 rw[j8,List.append_assoc];rfl
theorem ED(N K C:Int)(r:List Int):((ji N K C++r).drop 4).take 8=dL N 8:=by
 rw[j8,List.append_assoc,List.append_assoc];exact qD rfl (bI _ _)
theorem EE(N K C:Int)(r:List Int):((ji N K C++r).drop 12).take 4=dL K 4:=by
 rw[j8];simp only[List.append_assoc];rw[← List.append_assoc [84,71,88,49]];exact qD (by rw[List.length_append,bI];rfl) (bI _ _)
theorem EF(N K C:Int)(r:List Int):((ji N K C++r).drop 16).take 4=dL C 4:=by
 rw[j8];simp only[List.append_assoc];rw[← List.append_assoc [84,71,88,49],← List.append_assoc ([84,71,88,49]++dL N 8)];exact qD (by simp only[List.length_append,bI];rfl) (bI _ _)
structure fh where
 (len first sum:Int)
def jJ(r:fh):List Int:=dL r.len 4++(dL r.first 8++dL r.sum 4)
def mJ(l:List fh):List Int:=l.flatMap jJ++[88,71,84,49]
def mK(l:List fh):List Int:=jI (mJ l)
theorem tG(r:fh):(jJ r).length=16:=by unfold jJ;simp only[List.length_append,bI]
theorem kS(l:List fh):(l.flatMap jJ).length=16*l.length:=by
 induction l with
 | nil=>rfl
 | cons r l ih=>rw[List.flatMap_cons,List.length_append,ih,tG,List.length_cons];omega
theorem nH(l:List fh):(mJ l).length=16*l.length+4:=by unfold mJ;rw[List.length_append,kS];rfl
theorem kD(l:List fh):(mK l).length=16*l.length+8:=by unfold mK;rw[kA,nH]
theorem Bc(r:fh):By (jJ r):=(By.fix _ _).append ((By.fix _ _).append (.fix _ _))
theorem yG(l:List fh):By (l.flatMap jJ):=fun b hb=>by
 obtain⟨r,_,hr⟩:=List.mem_flatMap.1 hb;exact Bc r b hr
theorem xS(l:List fh):By (mJ l):=(yG l).append fun b hb=>by simp at hb;omega
theorem xT(l:List fh):By (mK l):=(xS l).sld
def iR(last:Int):List fh->Bool
 | []=>true
 | r ::l=>decide (1<=r.len/\r.len<=4294967295/\last<=r.first/\r.first<=4611686018427387903) && iR r.first l
def rowsOk(l:List fh):Bool:=iR 0 l
def dr(l:List fh):Int:=(l.map fh.len).sum
theorem i9(l m:List fh):dr (l++m)=dr l+dr m:=by unfold dr;rw[List.map_append,List.sum_append]
structure AQ(r:fh):Prop where
 len:1<=r.len/\r.len<=4294967295
 first:0<=r.first/\r.first<=4611686018427387903
 sum:0<=r.sum/\r.sum<=4294967295
theorem tF:∀ {l:List fh} {last:Int},iR last l=true->∀ r∈l,(1<=r.len/\r.len<=4294967295)/\last<=r.first/\r.first<=4611686018427387903
 | [],last,_,r,hr=>by cases hr
 | x ::l,last,h,r,hr=>by
  unfold iR at h;rw[Bool.and_eq_true,decide_eq_true_iff]at h;rcases List.mem_cons.1 hr with rfl | hr
  ·exact⟨⟨h.1.1,h.1.2.1⟩,h.1.2.2.1,h.1.2.2.2⟩
  ·have:=tF h.2 r hr;exact⟨this.1,by omega,this.2.2⟩
theorem lN:∀ {l:List fh},(∀ r∈l,1<=r.len)->(l.length:Int)<=dr l
 | [],_=>by simp[dr]
 | x ::l,h=>by
  have ih:=lN (l:=l) fun r hr=>h r (by simp[hr]);have hx:=h x (by simp);have:dr (x ::l)=x.len+dr l:=by unfold dr;simp
  rw[this,List.length_cons];omega
theorem B8{r:fh}(h:AQ r)(s:List Int):hZ ((jJ r++s).take 4)=r.len/\hZ (((jJ r++s).drop 4).take 8)=r.first/\hZ (((jJ r++s).drop 12).take 4)=r.sum:=by
 obtain⟨h1,h2,h3⟩:=h;refine⟨?_,?_,?_⟩
 ·unfold jJ;rw[List.append_assoc,List.take_left' (bI _ _),jL 4 (by omega) (by omega)]
 ·unfold jJ;rw[List.append_assoc,List.append_assoc,qD (bI _ _) (bI _ _),jL 8 (by omega) (by omega)]
 ·unfold jJ;rw[← List.append_assoc (dL r.len 4),List.append_assoc (dL r.len 4++dL r.first 8),qD (by simp only[List.length_append,bI]) (bI _ _),jL 4 (by omega) (by omega)]
end Go.V
/-! Files of histories, as bytes. Lists alone. -/
namespace Go.Proofs.YtlieaecnllkefaaGreat
open Go Go.V Go.RowKit
structure cJ(N:Int)(l:List aW):Prop where
 ok:k8 N l none []
 u:∀ e∈l,0<=e.u
 len:l.length<=49
 n:0<=N/\N<=4294967296
def ki(l:List aW)(k i:Nat):List Edge:=dH (l.take (i*k)) []
def jV(l:List aW)(k i:Nat):List aW:=(l.drop (i*k)).take k
def dQ(l:List aW)(k i:Nat):List Int:=dY (qo (jV l k i)) (ki l k i) (jV l k i)
def je(l:List aW)(k i:Nat):fh:=⟨((dQ l k i).length:Int),qo (jV l k i),px (dQ l k i)⟩
def fC(n k:Nat):Nat:=(n+k-1) / k
def du(l:List aW)(k m:Nat):List Int:=(List.range m).flatMap (dQ l k)
def eu(l:List aW)(k m:Nat):List fh:=(List.range m).map (je l k)
def gg(N:Int)(l:List aW)(k:Nat):List Int:=ji N k l.length++(du l k (fC l.length k)++mK (eu l k (fC l.length k)))
theorem io{n k i:Nat}(hk:0<k):i<fC n k↔i*k<n:=by
 unfold fC;rw[Nat.lt_iff_add_one_le,Nat.le_div_iff_mul_le hk,Nat.add_mul,Nat.one_mul];omega
theorem pP{n k:Nat}(hk:0<k):fC n k<=n:=by
 by_cases h:fC n k=0
 ·omega
 ·have:=(io (n:=n) (i:=fC n k-1) hk).1 (by omega);have h1:fC n k-1<=(fC n k-1)*k:=Nat.le_mul_of_pos_right _ hk;omega
theorem ud{n k:Nat}(hk:0<k):n<=fC n k*k:=by
 have:=(io (n:=n) (k:=k) (i:=fC n k) hk);omega
theorem mT{n k:Nat}(hk:0<k):(((n:Int)+(k:Int)-1) / (k:Int))=((fC n k:Nat):Int):=by
 unfold fC;rw[show(n:Int)+(k:Int)-1=((n+k-1:Nat):Int) by omega];rfl
section
variable {N : Int} {l : List aW} {k i m : Nat}
theorem mb:(jV l k i).length=min k (l.length-i*k):=by unfold jV;rw[List.length_take,List.length_drop]
theorem Au(hk:0<k)(hi:i*k<l.length):jV l k i≠[]:=fun e=>by
 have:=congrArg List.length e;rw[mb]at this;simp at this;omega
theorem qL(hk:0<k)(hi:i*k<l.length):qo (jV l k i)=l[i*k].t:=by
 unfold jV;obtain⟨k,rfl⟩:∃ k',k=k'+1:=⟨k-1,by omega⟩;rw[List.drop_eq_getElem_cons hi,List.take_succ_cons];rfl
theorem cJ.mem(h:cJ N l):∀ e∈l,(0<=e.t/\e.t<=4611686018427387903)/\0<=e.u/\e.u<e.v/\e.v<N:=fun e he=>by
 have:=h.ok.mem e he;exact⟨this.1,h.u e he,this.2⟩
theorem cJ.evM(h:cJ N l):∀ e∈jV l k i,(0<=e.t/\e.t<=4611686018427387903)/\0<=e.u/\e.u<e.v/\e.v<N:=fun e he=>h.mem e (List.mem_of_mem_drop (List.mem_of_mem_take he))
theorem cJ.keyM(h:cJ N l):fW (ki l k i)/\∀ a∈ki l k i,0<=a.1/\a.1<a.2/\a.2<N:=by
 have ha:=CF (k:=((i*k:Nat):Int)) h.ok;rw[show((i*k:Nat):Int).toNat=i*k by omega]at ha;refine⟨ha.1,fun a hx=>?_⟩;obtain⟨e,he,rfl⟩:=ha.2 a hx;exact(h.mem e he).2
theorem cJ.keyLen(h:cJ N l):(ki l k i).length<=49:=by
 have:=iW (l.take (i*k)) [];have:=h.len;unfold ki;rw[List.length_take]at *;simp only[List.length_nil]at *;omega
theorem cJ.evLen(h:cJ N l):(jV l k i).length<=49:=by have:=h.len;rw[mb];omega
theorem cJ.edgesB(h:cJ N l):fJ (ki l k i):=fun e he=>by have:=h.keyM.2 e he;have:=h.n;omega
theorem cJ.evtsB(h:cJ N l):ny (jV l k i):=fun e he=>by have:=h.evM e he;have:=h.n;omega
theorem cJ.evOk(h:cJ N l):k8 N (jV l k i) none (ki l k i):=((h.ok.drop (i*k)).take k).free
theorem cJ.blk(h:cJ N l)(hk:0<k)(hi:i*k<l.length):uZ (qo (jV l k i)) (ki l k i) (jV l k i) :=
 ⟨⟨h.keyM.1,fun e he=>by have:=h.keyM.2 e he;have:=h.n;omega,by have:=h.keyLen (k:=k) (i:=i);omega⟩,Au hk hi,
  h.evOk.delOk h.n.2 (fun e he=>(h.evM e he).2.1) (fun _ e he=>by
   cases hx:jV l k i with
   | nil=>rw[hx]at he;cases he
   | cons a x=>rw[hx]at he;cases he;rfl),h.evOk.fits⟩
theorem cJ.err(h:cJ N l)(hk:0<k)(hi:i*k<l.length):gu (ki l k i) (jV l k i)=0:=(wl h.edgesB (by have:=h.keyLen (k:=k) (i:=i);omega) h.evtsB).2 (h.blk hk hi)
theorem cJ.is(h:cJ N l)(hk:0<k)(hi:i*k<l.length):sw (dQ l k i) N (qo (jV l k i)) (jV l k i).length (ki l k i) (jV l k i) :=
 ⟨h.blk hk hi,fun e he=>(h.keyM.2 e he).2.2,fun e he=>(h.evM e he).2.2.2,rfl,rfl⟩
theorem kF(n:Nat):0<(bX n).length:=by unfold bX;split <;>simp
theorem cJ.blen(h:cJ N l)(hk:0<k)(hi:i*k<l.length):1<=(dQ l k i).length/\(dQ l k i).length<=9480:=by
 have h1:=h.keyLen (k:=k) (i:=i);have h2:=h.evLen (k:=k) (i:=i);have h3:=uN (h.blk hk hi) (by omega) (by omega);have h4:=kF (cy (fF (ki l k i))).length;refine⟨?_,by unfold dQ;omega⟩;unfold dQ dY;rw[List.length_append];omega
theorem eG:(eu l k m).length=m:=by unfold eu;simp
theorem ly:eu l k (m+1)=eu l k m++[je l k m]:=by unfold eu;rw[List.range_succ,List.map_append];rfl
theorem jx:du l k (m+1)=du l k m++dQ l k m:=by unfold du;rw[List.range_succ,List.flatMap_append];simp
theorem uk:∀ m,dr (eu l k m)=((du l k m).length:Int)
 | 0=>rfl
 | m+1=>by rw[ly,jx,i9,uk m,List.length_append];unfold dr je;simp
theorem cJ.rowN(h:cJ N l)(hk:0<k)(hi:i*k<l.length):AQ (je l k i):=by
 have h1:=h.blen hk hi;have h2:=h.mem _ (List.getElem_mem hi);have h3:=yR (dQ l k i);refine⟨?_,?_,?_⟩ <;>unfold je <;>simp only
 ·omega
 ·rw[qL hk hi];exact h2.1
 ·omega
theorem nX:∀ {a b:List fh} {last:Int},iR last (a++b)=true↔iR last a=true/\iR ((a.getLast?.map fh.first).getD last) b=true
 | [],b,last=>by simp[iR]
 | x ::a,b,last=>by
  rw[List.cons_append,iR,iR,Bool.and_eq_true,Bool.and_eq_true,nX,and_assoc];have:((x ::a).getLast?.map fh.first).getD last=(a.getLast?.map fh.first).getD x.first:=by
   cases a with
   | nil=>rfl
   | cons y a=>rw[List.getLast?_cons_cons];simp[List.getLast?_cons]
  rw[this]
theorem cJ.rowsOk(h:cJ N l)(hk:0<k):∀ {m:Nat},m<=fC l.length k->rowsOk (eu l k m)=true
 | 0,_=>rfl
 | m+1,hm=>by
  have ih:=h.rowsOk hk (m:=m) (by omega);have hi:=(io (n:=l.length) (i:=m) hk).1 (by omega);have hr:=h.rowN hk hi;unfold Go.V.rowsOk at ih ⊢;rw[ly,nX];refine⟨ih,?_⟩;have HL:((eu l k m).getLast?.map fh.first).getD 0<=(je l k m).first:=by
   cases m with
   | zero=>exact hr.first.1
   | succ m =>
    rw[ly,List.getLast?_append];simp only[List.getLast?_singleton,Option.some_or,Option.map_some,Option.getD_some];have KI:=(io (n:=l.length) (i:=m) hk).1 (by omega);show qo (jV l k m)<=qo (jV l k (m+1));rw[qL hk KI,qL hk hi];exact h.ok.times.le (Nat.mul_le_mul_right k (by omega)) hi
  unfold iR;rw[Bool.and_eq_true,decide_eq_true_iff];exact⟨⟨hr.len.1,hr.len.2,HL,hr.first.2⟩,rfl⟩
theorem cJ.bodyBy(h:cJ N l):By (dQ l k i):=fun b hb=>jy _ _ _ b hb
theorem AG:By (du l k m):=fun b hb=>by
 obtain⟨i,_,hi⟩:=List.mem_flatMap.1 hb;exact jy _ _ _ b hi
theorem pZ:By (gg N l k):=(yD _ _ _).append (AG.append (xT _))
theorem qJ:(gg N l k).length=24+((du l k (fC l.length k)).length+(16*fC l.length k+8)):=by
 unfold gg;rw[List.length_append,List.length_append,gG,kD,eG]
theorem cJ.bodiesLen(h:cJ N l)(hk:0<k):∀ {m:Nat},m<=fC l.length k->(du l k m).length<=9480*m
 | 0,_=>Nat.zero_le _
 | m+1,hm=>by
  have:=h.bodiesLen hk (m:=m) (by omega);have:=h.blen hk ((io (n:=l.length) (i:=m) hk).1 (by omega));rw[jx,List.length_append];omega
theorem pD:∀ {m:Nat},i<m->∃ s,du l k m=du l k i++(dQ l k i++s)
 | 0,h=>absurd h (Nat.not_lt_zero _)
 | m+1,h=>by
  rw[jx];by_cases e:i=m
  ·subst e;exact⟨[],by simp⟩
  ·obtain⟨s,hs⟩:=pD (m:=m) (by omega);exact⟨s++dQ l k m,by rw[hs];simp only[List.append_assoc]⟩
theorem Am(hi:i<fC l.length k):((gg N l k).drop (24+(du l k i).length)).take (dQ l k i).length=dQ l k i:=by
 obtain⟨s,hs⟩:=pD (l:=l) (k:=k) hi;unfold gg;rw[hs];simp only[List.append_assoc];rw[← List.append_assoc (ji _ _ _)];exact qD (by rw[List.length_append,gG]) rfl
end
end Go.Proofs.YtlieaecnllkefaaGreat
/-! crc: the walks. -/
namespace Go.Proofs.YtlieaecnllkefaaGreat
open Go Go.V Go.RowKit
theorem CL{v:Int}:IntKind.wrap .u8 v=v % 256:=by
 have:=eW (k:=.u8) (z:=v % 256) (by simp only[aF];omega);simp only[IntKind.wrap,IntKind.bits,IntKind.signed]at *;simp at *
theorem vw{w:World}{s b:Int}(hb:0<=b/\b<=255):Calls P 71 #[.int .u32 s,.int .u8 b] w fun ev w'=>ev=.returned (.int .u32 (BA s b))/\w'=w:=by
 apply vc71;dsimp only[VC71,Br]
 try simp only[aF]
 refine⟨by omega,fun m s' i w'=>∃ p:Nat,i=(p:Int)/\p<=8/\m=8-p/\s'=yQ p (dE .xor .u32 s b)/\w'=w,⟨_,0,rfl,by omega,rfl,rfl,rfl⟩,?_⟩;rintro m s' i w' ⟨p,rfl,hp,rfl,rfl,rfl⟩;have hr:=yP p (pC s b);have hn:=Ct p (dE .xor .u32 s b);unfold Az at hn;rw[DO hr];refine⟨fun FE=>⟨fun h1=>⟨by omega,by omega,8-(p+1),by omega,p+1,by omega,by omega,rfl,?_,rfl⟩,fun h1=>⟨by omega,by omega,8-(p+1),by omega,p+1,by omega,by omega,rfl,?_,rfl⟩⟩,fun FJ=>?_⟩
 ·rw[hn,if_pos h1];rfl
 ·rw[hn,if_neg h1];rfl
 ·have:p=8:=by omega
  subst this;exact⟨rfl,rfl⟩
theorem mg{w:World}{A B:OA}{n c d:Nat}{l:List Int}(hp:aZ w B [.slice A n c])(hr:aZ w A (bV l))(hn:n=l.length)(hb:By l)(hl:l.length<=2^40):
    Calls P 37 #[.slice B 1 d] w fun ev w'=>ev=.returned (.int .u32 (px l))/\w'=w:=by
  apply vc37;dsimp only[VC37,Br,Rd,Rs,Ix,cI]
  try simp only[aF]
  refine⟨fun m s i w'=>(i=0/\m=1/\s=4294967295/\w'=w)∨(i=1/\m=0/\s=se 4294967295 l/\w'=w),⟨_,.inl ⟨rfl,rfl,rfl,rfl⟩⟩,?_⟩;rintro m s i w' (⟨rfl,rfl,rfl,rfl⟩ | ⟨rfl,rfl,rfl,rfl⟩)
  · refine⟨fun _=>?_,fun h=>absurd (show(0:Int)<((1:Nat):Int) by omega) h⟩;obtain⟨b,eB,fB⟩:=hp 0 (.slice A n c) rfl;refine⟨b,eB,by omega,by omega,A,n,c,fB,fun m s i w''=>∃ p:Nat,i=(p:Int)/\p<=l.length/\m=l.length-p/\s=se 4294967295 (l.take p)/\w''=w',⟨_,0,rfl,by omega,rfl,rfl,rfl⟩,?_⟩;rintro m s i w'' ⟨p,rfl,Jk,rfl,rfl,rfl⟩;have tp:(p:Int).toNat=p:=by omega
    rw[tp];refine⟨fun FE=>?_,fun FJ=>?_⟩
    · have lp:p<l.length:=by omega
      obtain⟨a,eA,fA⟩:=hr p (.int .u8 l[p]) (by rw[List.getElem?_map,List.getElem?_eq_getElem lp];rfl);refine⟨a,eA,by omega,by omega,l[p],fA,(vw (hb _ (List.getElem_mem lp))).mono fun ev w3 hh=>?_⟩;obtain⟨rfl,rfl⟩:=hh;refine⟨_,rfl,by omega,l.length-(p+1),by omega,p+1,by omega,by omega,rfl,?_,rfl⟩;rw[List.take_succ_eq_append_getElem lp,xr];rfl
    · have Ih:p=l.length:=by omega
      subst Ih;rw[List.take_length];exact⟨by omega,0,by omega,.inr ⟨rfl,rfl,rfl,rfl⟩⟩
  · refine⟨fun h=>absurd h (by omega),fun _=>?_⟩;exact⟨rfl,rfl⟩
theorem oG{w:World}{A:OA}{n c:Nat}{l:List Int}(hr:aZ w A (bV l))(hn:n=l.length)(hb:By l)(hl:l.length<=2^30):
    Calls P 62 #[.slice A n c] w fun ev w'=>∃(A':OA)(n' c':Nat),ev=.returned (.slice A' n' c')/\aE w' w.heap.size 5 1 A' n' c' (bV (jI l))/\w.grownBy w' none:=by
  apply vc62;dsimp only[VC62,Br,Ap,cI,cS,nb]
  try simp only[aF]
  refine(iY hr hn (by omega)).mono fun ev w1 hh=>?_;obtain⟨A1,n1,c1,rfl,o1,g1⟩:=hh;have g2:=World.grownBy_alloc w1 (.cells #[.slice A n c] 26) none;have rP:aZ (w1.alloc (.cells #[.slice A n c] 26)) (some ⟨w1.heap.size,0,none⟩) [.slice A n c]:=jr w1 #[.slice A n c] 26;refine⟨_,_,_,rfl,(mg rP ((hr.kept_none g1).kept_none g2) hn hb (by omega)).mono fun ev w2 hh=>?_⟩;obtain⟨rfl,rfl⟩:=hh;have Xv:=yR l;have Ic:=aA g1 g2;refine⟨_,rfl,fun m B k d s i W=>∃ p:Nat,i=(p:Int)/\p<=4/\m=4-p/\aE W w.heap.size 5 1 B k d (bV (l++dL (px l) p))/\s=px l / 256^p/\w.grownBy W none,⟨_,0,rfl,by omega,rfl,by simpa[dL]using o1.kp (S:=fun _=>False) (Kp.of_none g2) (fun _ _ e=>e),by simp,Ic⟩,?_⟩;rintro m B k d s i W ⟨p,rfl,hp,rfl,oW,rfl,gW⟩;refine⟨fun FE=>?_,fun FJ=>?_⟩
  · have FI:k=l.length+p:=by have:=oW.cases.1;simp[bI]at this;omega
    obtain⟨A3,n3,c3,w3,r3,o3,g3,_⟩:=eP (x:=IntKind.wrap .u8 (px l / 256^p)) oW (by omega) gW.size;have ob:=fun q hq=>(World.ownsRow.lt oW q hq).1;refine⟨A3,n3,c3,w3,r3,by omega,by omega,4-(p+1),by omega,p+1,by omega,by omega,rfl,?_,?_,bZ gW g3 fun q hq=>ob q hq⟩
    · rw[qI,← List.append_assoc,← CL];exact o3
    · rw[show(2:Int)^8=256 by decide,Int.ediv_ediv_of_nonneg (Int.le_of_lt (lE p)),← Int.pow_succ]
  · have:p=4:=by omega
    subst this;exact⟨_,_,_,rfl,oW,gW⟩
theorem va{w:World}{A B:OA}{n c m d:Nat}{a b:List Int}(hA:aZ w A (bV a))(hn:n=a.length)(hB:aZ w B (bV b))(hm:m=b.length)(hl:a.length<=2^40):
    Calls P 119 #[.slice A n c,.slice B m d] w fun ev w'=>ev=.returned (.bool (decide (a=b)))/\w.grownBy w' none:=by
  apply vc119;dsimp only[VC119,rb,Br,Rd,Ix]
  try simp only[aF]
  refine⟨fun FG=>⟨?_,aC _ _⟩,fun GZ=>?_⟩
  · rw[decide_eq_false (fun h=>FG (by rw[hn,hm,h]))]
  have J9:a.length=b.length:=by omega
  refine⟨fun q i W=>∃ p:Nat,i=(p:Int)/\p<=a.length/\q=a.length-p/\a.take p=b.take p/\w.grownBy W none,⟨_,0,rfl,by omega,rfl,rfl,aC _ _⟩,?_⟩;rintro q i W ⟨p,rfl,hp,rfl,ht,gW⟩;have tp:(p:Int).toNat=p:=by omega
  rw[tp];refine⟨fun FE=>?_,fun FJ=>?_⟩
  · have gd:=aH gW;have la:p<a.length:=by omega
    have lb:p<b.length:=by omega
    obtain⟨x,e1,e2⟩:=(hA.kept_none gd) p (.int .u8 a[p]) (by rw[List.getElem?_map,List.getElem?_eq_getElem la];rfl);obtain⟨y,f1,f2⟩:=(hB.kept_none gd) p (.int .u8 b[p]) (by rw[List.getElem?_map,List.getElem?_eq_getElem lb];rfl);refine⟨x,e1,by omega,by omega,_,e2,y,f1,by omega,by omega,_,f2,fun FG=>⟨?_,gd⟩,fun he=>⟨by omega,a.length-(p+1),by omega,p+1,by omega,by omega,rfl,?_,gd⟩⟩
    · rw[decide_eq_false (fun h=>FG (by subst h;rfl))]
    · rw[List.take_succ_eq_append_getElem la,List.take_succ_eq_append_getElem lb,ht,Decidable.not_not.1 he]
  · have:p=a.length:=by omega
    subst this;rw[List.take_length,J9,List.take_length]at ht;rw[decide_eq_true ht];exact⟨rfl,gW⟩
theorem tY{w:World}{A:OA}{n c:Nat}{x:List Int}(hr:aZ w A (bV x))(hn:n=x.length)(hc:n<=c)(hb:By x)(hl:x.length<=2^30)(hs:DS x):
    Calls P 83 #[.slice A n c] w fun ev w'=>∃(A':OA)(n' c':Nat),ev=.returned (.tuple #[.slice A' n' c',.bool true])/\aE w' w.heap.size 5 1 A' n' c' (bV (x.take (x.length-4)))/\w.grownBy w' none:=by
  apply vc83;dsimp only[VC83,rt,Br,cB,cS]
  try simp only[aF]
  have h4:=hs.1;have tn:((n:Int)-4).toNat=x.length-4:=by omega
  rw[tn];have Sp:∀ W,w.grownBy W none->aZ W A (bV (x.take (x.length-4))):=fun W hW j u hj=>by
    rw[List.getElem?_map,List.getElem?_take]at hj;split at hj
    · exact(hr.kept_none hW) j u (by rw[List.getElem?_map];exact hj)
    · simp at hj
  have SI:(x.take (x.length-4)).length=x.length-4:=by rw[List.length_take];omega
  refine⟨by omega,fun h=>absurd h (by omega),fun _=>⟨⟨by omega,by omega⟩,(oG (Sp w (aC _ _)) SI.symm (hb.take _) (by omega)).mono fun ev w1 hh=>?_⟩⟩;obtain⟨A1,n1,c1,rfl,o1,g1⟩:=hh;have HU:n1=(jI (x.take (x.length-4))).length:=by have:=o1.cases.1;simp at this;omega
  refine⟨_,_,_,rfl,(va o1.row HU (hr.kept_none g1) hn (by rw[kA];omega)).mono fun ev w2 hh=>?_⟩;obtain⟨rfl,g2⟩:=hh;refine⟨_,rfl,fun h=>absurd hs.2.symm (of_decide_eq_false h),fun _=>⟨⟨by omega,by omega⟩,(iY (Sp w2 (aA g1 g2)) SI.symm (by omega)).mono fun ev w3 hh=>?_⟩⟩;obtain⟨A3,n3,c3,rfl,o3,g3⟩:=hh;have s1:=g1.size;have s2:=g2.size;refine⟨_,_,_,rfl,_,_,_,rfl,o3.mono (by omega),aA g1 (aA g2 g3)⟩
end Go.Proofs.YtlieaecnllkefaaGreat

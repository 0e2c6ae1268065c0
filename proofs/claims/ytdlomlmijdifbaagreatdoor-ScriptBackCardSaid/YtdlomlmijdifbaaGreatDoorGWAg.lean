/- Own texts, packed: W1, W2, W3, W4, W5. -/
import Derived.Test.YtdlomlmijdifbaaGreatDoorGIg
import Derived.Test.YtdlomlmijdifbaaGreatDoorGAg
import Derived.Test.YtdlomlmijdifbaaGreatDoorGOg
import Derived.Test.YtdlomlmijdifbaaGreatDoorGPg
import Derived.Test.YtdlomlmijdifbaaGreatDoorGCg
import Derived.Test.YtdlomlmijdifbaaGreatDoorGWXg
/-! Numbers in so many bytes, the lowest first. Plain Lean; no program. -/
set_option linter.unusedVariables false
set_option linter.unusedSimpArgs false
set_option maxRecDepth 100000
set_option maxHeartbeats 4000000
namespace Go.V
def bL(v:Int):Nat->List Int
 | 0=>[]
 | n+1=>v % 256 ::bL (v / 256) n
def eM:List Int->Int
 | []=>0
 | b ::l=>b+256*eM l
theorem aK(v:Int):∀ n,(bL v n).length=n
 | 0=>rfl
 | n+1=>by show(bL (v / 256) n).length+1=n+1;rw[aK]
theorem yJ(v:Int)(n:Nat):∀ x∈bL v n,0<=x/\x<=255:=by
 induction n generalizing v with
 | zero=>intro x hx;cases hx
 | succ n ih =>
  intro x hx;rcases List.mem_cons.1 hx with rfl | hx
  ·omega
  ·exact ih _ x hx
theorem sR(n:Nat):(256:Int)^(n+1)=256*256^n:=by rw[Int.pow_succ];omega
theorem oM(n:Nat):0<(256:Int)^n:=Int.pow_pos (by omega)
theorem fQ:∀ (n:Nat) {v:Int},0<=v->v<256^n->eM (bL v n)=v
 | 0,v,h0,h1=>by simp at h1;show(0:Int)=v;omega
 | n+1,v,h0,h1=>by
  rw[sR]at h1;have h2:v / 256<256^n:=Int.ediv_lt_of_lt_mul (by omega) (by rw[Int.mul_comm];exact h1);show v % 256+256*eM (bL (v / 256) n)=v;rw[fQ n (by omega) h2];omega
theorem zJ:∀ {l:List Int},(∀ x∈l,0<=x/\x<=255)->0<=eM l/\eM l<256^l.length
 | [],_=>by simp[eM]
 | b ::l,h=>by
  have ih:=zJ (l:=l) fun x hx=>h x (by simp[hx]);have hb:=h b (by simp);show 0<=b+256*eM l/\b+256*eM l<256^(l.length+1);rw[sR];omega
theorem uW(l m:List Int):eM (l++m)=eM l+256^l.length*eM m:=by
 induction l with
 | nil=>simp[eM]
 | cons b l ih =>
  show b+256*eM (l++m)=b+256*eM l+256^(l.length+1)*eM m;rw[ih,sR,Int.mul_add,Int.mul_assoc];omega
theorem qY(v:Int)(n:Nat):bL v (n+1)=bL v n++[v / 256^n % 256]:=by
 induction n generalizing v with
 | zero=>simp[bL]
 | succ n ih =>
  show v % 256 ::bL (v / 256) (n+1)=v % 256 ::(bL (v / 256) n++[v / 256^(n+1) % 256]);rw[ih,sR,Int.ediv_ediv_of_nonneg (by omega)]
end Go.V
/-! Sums of bytes, seals. Plain Lean; no program. -/
namespace Go.V
open Go
theorem yT(x y:Int):jR .xor .u32 x y=((BitVec.ofInt 32 x^^^BitVec.ofInt 32 y).toNat:Int):=by
 show IntKind.u32.wrap ((BitVec.ofInt 32 x^^^BitVec.ofInt 32 y).toNat:Int)=_;have:=(BitVec.ofInt 32 x^^^BitVec.ofInt 32 y).isLt;exact dM (by simp only[aI];omega)
theorem fS(x y:Int):0<=jR .xor .u32 x y/\jR .xor .u32 x y<=4294967295:=by
 rw[yT];have:=(BitVec.ofInt 32 x^^^BitVec.ofInt 32 y).isLt;omega
theorem wK{s:Int}(h:0<=s/\s<=4294967295):jR .xor .u32 4294967295 (jR .xor .u32 4294967295 s)=s:=by
 rw[yT,yT,BitVec.ofInt_natCast,BitVec.ofNat_toNat,BitVec.setWidth_eq,← BitVec.xor_assoc,BitVec.xor_self,BitVec.zero_xor];obtain⟨n,rfl⟩:∃ n:Nat,s=n:=⟨s.toNat,by omega⟩;rw[BitVec.ofInt_natCast,BitVec.toNat_ofNat,Nat.mod_eq_of_lt (by omega)]
theorem wN{s:Int}(h:0<=s/\s<=4294967295):jR .and .u32 s 1=s % 2:=by
 show IntKind.u32.wrap ((BitVec.ofInt 32 s &&& BitVec.ofInt 32 1).toNat:Int)=_;obtain⟨n,rfl⟩:∃ n:Nat,s=n:=⟨s.toNat,by omega⟩;have e:(BitVec.ofInt 32 (n:Int) &&& BitVec.ofInt 32 1).toNat=n % 2:=by
  rw[BitVec.ofInt_natCast,show BitVec.ofInt 32 1=BitVec.ofNat 32 1 from rfl,BitVec.toNat_and,BitVec.toNat_ofNat,BitVec.toNat_ofNat,Nat.mod_eq_of_lt (by omega),show 1 % 2^32=1 from rfl,Nat.and_one_is_mod]
 rw[e,dM (by simp only[aI];omega)];omega
def wD(s:Int):Int:=if s % 2=1 then jR .xor .u32 (s / 2) 3988292384 else s / 2
def tM:Nat->Int->Int
 | 0,s=>s
 | n+1,s=>tM n (wD s)
def lN(s b:Int):Int:=tM 8 (jR .xor .u32 s b)
def jM(s:Int):List Int->Int
 | []=>s
 | b ::l=>jM (lN s b) l
def mK(l:List Int):Int:=jR .xor .u32 4294967295 (jM 4294967295 l)
theorem BY{s:Int}(h:0<=s/\s<=4294967295):0<=wD s/\wD s<=4294967295:=by
 unfold wD;split
 ·exact fS _ _
 ·omega
theorem lO:∀ (n:Nat) {s:Int},(0<=s/\s<=4294967295)->0<=tM n s/\tM n s<=4294967295
 | 0,s,h=>h
 | n+1,s,h=>lO n (BY h)
theorem rL(n:Nat)(s:Int):tM (n+1) s=wD (tM n s):=by
 induction n generalizing s with
 | zero=>rfl
 | succ n ih=>show tM (n+1) (wD s)=_;rw[ih];rfl
theorem wB(s b:Int):0<=lN s b/\lN s b<=4294967295:=lO 8 (fS _ _)
theorem rO:∀ (l:List Int) {s:Int},(0<=s/\s<=4294967295)->0<=jM s l/\jM s l<=4294967295
 | [],s,h=>h
 | b ::l,s,h=>rO l (wB s b)
theorem lP(s:Int)(l m:List Int):jM s (l++m)=jM (jM s l) m:=by
 induction l generalizing s with
 | nil=>rfl
 | cons b l ih=>exact ih _
theorem wC(l:List Int):0<=mK l/\mK l<256^4:=by
 have:=fS 4294967295 (jM 4294967295 l);unfold mK;omega
def fJ(b:List Int):List Int:=b++bL (mK b) 4
theorem gR(b:List Int):(fJ b).length=b.length+4:=by unfold fJ;rw[List.length_append,aK]
def Cc(x:List Int):Prop:=4<=x.length/\x=fJ (x.take (x.length-4))
theorem jB(b:List Int):Cc (fJ b)/\(fJ b).take ((fJ b).length-4)=b:=by
 have h:(fJ b).take ((fJ b).length-4)=b:=by
  rw[gR,show b.length+4-4=b.length by omega];unfold fJ;exact List.take_left' rfl
 exact⟨⟨by rw[gR];omega,by rw[h]⟩,h⟩
end Go.V
/-! Heads, rows, as bytes. Plain Lean; no program. -/
namespace Go.V
open Go
def By(l:List Int):Prop:=∀ b∈l,0<=b/\b<=255
theorem By.append{l m:List Int}(h:By l)(h':By m):By (l++m):=fun b hb=>(List.mem_append.1 hb).elim (h b) (h' b)
theorem By.fix(v:Int)(n:Nat):By (bL v n):=yJ v n
theorem By.sld{l:List Int}(h:By l):By (fJ l):=h.append (.fix _ _)
theorem By.take{l:List Int}(h:By l)(n:Nat):By (l.take n):=fun b hb=>h b (List.mem_of_mem_take hb)
theorem By.drop{l:List Int}(h:By l)(n:Nat):By (l.drop n):=fun b hb=>h b (List.mem_of_mem_drop hb)
def dV(N K C:Int):Prop:=N<=4294967296/\1<=K/\K<=1048576/\0<=C/\C<=2147483648
instance (N K C:Int):Decidable (dV N K C):=inferInstanceAs (Decidable (_/\_/\_/\_/\_))
def lG(N K C:Int):List Int:=([84,71,88,49]++bL N 8)++bL K 4++bL C 4
def fX(N K C:Int):List Int:=fJ (lG N K C)
theorem qX(N K C:Int):(lG N K C).length=20:=by unfold lG;simp only[List.length_append,aK];rfl
theorem eW(N K C:Int):(fX N K C).length=24:=by unfold fX;rw[gR,qX]
theorem vI(N K C:Int):By (lG N K C):=by
 unfold lG;refine((By.append ?_ (.fix _ _)).append (.fix _ _)).append (.fix _ _);intro b hb;simp at hb;omega
theorem vK(N K C:Int):By (fX N K C):=(vI N K C).sld
theorem fW(N K C:Int):fX N K C=[84,71,88,49]++(bL N 8++(bL K 4++(bL C 4++bL (mK (lG N K C)) 4))):=by
 unfold fX fJ;rw[show lG N K C=([84,71,88,49]++bL N 8)++bL K 4++bL C 4 from rfl];simp only[List.append_assoc]
theorem oU{l m r:List Int}{a b:Nat}(hl:l.length=a)(hm:m.length=b):((l++(m++r)).drop a).take b=m:=by
 rw[List.drop_left' hl,List.take_left' hm]
theorem vJ(N K C:Int)(r:List Int):(fX N K C++r).take 4=[84,71,88,49]:=by
 rw[fW,List.append_assoc];rfl
theorem CD(N K C:Int)(r:List Int):((fX N K C++r).drop 4).take 8=bL N 8:=by
 rw[fW,List.append_assoc,List.append_assoc];exact oU rfl (aK _ _)
theorem CE(N K C:Int)(r:List Int):((fX N K C++r).drop 12).take 4=bL K 4:=by
 rw[fW];simp only[List.append_assoc];rw[← List.append_assoc [84,71,88,49]];exact oU (by rw[List.length_append,aK];rfl) (aK _ _)
theorem CF(N K C:Int)(r:List Int):((fX N K C++r).drop 16).take 4=bL C 4:=by
 rw[fW];simp only[List.append_assoc];rw[← List.append_assoc [84,71,88,49],← List.append_assoc ([84,71,88,49]++bL N 8)];exact oU (by simp only[List.length_append,aK];rfl) (aK _ _)
structure dE where
 (len first sum:Int)
def fO(r:dE):List Int:=bL r.len 4++(bL r.first 8++bL r.sum 4)
def jC(l:List dE):List Int:=l.flatMap fO++[88,71,84,49]
def jW(l:List dE):List Int:=fJ (jC l)
theorem oG(r:dE):(fO r).length=16:=by unfold fO;simp only[List.length_append,aK]
theorem hY(l:List dE):(l.flatMap fO).length=16*l.length:=by
 induction l with
 | nil=>rfl
 | cons r l ih=>rw[List.flatMap_cons,List.length_append,ih,oG,List.length_cons];omega
theorem jQ(l:List dE):(jC l).length=16*l.length+4:=by unfold jC;rw[List.length_append,hY];rfl
theorem gY(l:List dE):(jW l).length=16*l.length+8:=by unfold jW;rw[gR,jQ]
theorem zC(r:dE):By (fO r):=(By.fix _ _).append ((By.fix _ _).append (.fix _ _))
theorem vO(l:List dE):By (l.flatMap fO):=fun b hb=>by
 obtain⟨r,_,hr⟩:=List.mem_flatMap.1 hb;exact zC r b hr
theorem uK(l:List dE):By (jC l):=(vO l).append fun b hb=>by simp at hb;omega
theorem uL(l:List dE):By (jW l):=(uK l).sld
def jD(last:Int):List dE->Bool
 | []=>true
 | r ::l=>decide (1<=r.len/\r.len<=4294967295/\last<=r.first/\r.first<=4611686018427387903) && jD r.first l
def kB(l:List dE):Bool:=jD 0 l
def cY(l:List dE):Int:=(l.map dE.len).sum
theorem pT(l m:List dE):cY (l++m)=cY l+cY m:=by unfold cY;rw[List.map_append,List.sum_append]
structure CO(r:dE):Prop where
 len:1<=r.len/\r.len<=4294967295
 first:0<=r.first/\r.first<=4611686018427387903
 sum:0<=r.sum/\r.sum<=4294967295
theorem kC:∀ {l:List dE} {last:Int},jD last l=true->∀ r∈l,(1<=r.len/\r.len<=4294967295)/\last<=r.first/\r.first<=4611686018427387903
 | [],last,_,r,hr=>by cases hr
 | x ::l,last,h,r,hr=>by
  unfold jD at h;rw[Bool.and_eq_true,decide_eq_true_iff]at h;rcases List.mem_cons.1 hr with rfl | hr
  ·exact⟨⟨h.1.1,h.1.2.1⟩,h.1.2.2.1,h.1.2.2.2⟩
  ·have:=kC h.2 r hr;exact⟨this.1,by omega,this.2.2⟩
theorem iM:∀ {l:List dE},(∀ r∈l,1<=r.len)->(l.length:Int)<=cY l
 | [],_=>by simp[cY]
 | x ::l,h=>by
  have ih:=iM (l:=l) fun r hr=>h r (by simp[hr]);have hx:=h x (by simp);have:cY (x ::l)=x.len+cY l:=by unfold cY;simp
  rw[this,List.length_cons];omega
theorem Az{r:dE}(h:CO r)(s:List Int):eM ((fO r++s).take 4)=r.len/\eM (((fO r++s).drop 4).take 8)=r.first/\eM (((fO r++s).drop 12).take 4)=r.sum:=by
 obtain⟨h1,h2,h3⟩:=h;refine⟨?_,?_,?_⟩
 ·unfold fO;rw[List.append_assoc,List.take_left' (aK _ _),fQ 4 (by omega) (by omega)]
 ·unfold fO;rw[List.append_assoc,List.append_assoc,oU (aK _ _) (aK _ _),fQ 8 (by omega) (by omega)]
 ·unfold fO;rw[← List.append_assoc (bL r.len 4),List.append_assoc (bL r.len 4++bL r.first 8),oU (by simp only[List.length_append,aK]) (aK _ _),fQ 4 (by omega) (by omega)]
end Go.V
/-! Files of histories, as bytes. Lists alone. -/
namespace Go.Proofs.YtdlomlmijdifbaaGreatDoor
open Go Go.V Go.RowKit
section
variable {N : Int} {l : List dK} {k i m : Nat}
end
end Go.Proofs.YtdlomlmijdifbaaGreatDoor
/-! crc: the walks. -/
namespace Go.Proofs.YtdlomlmijdifbaaGreatDoor
open Go Go.V Go.RowKit
theorem CU{v:Int}:IntKind.wrap .u8 v=v % 256:=by
 have:=dM (k:=.u8) (z:=v % 256) (by simp only[aI];omega);simp only[IntKind.wrap,IntKind.bits,IntKind.signed]at *;simp at *
theorem qA{w:World}{s b:Int}(hb:0<=b/\b<=255):Calls P 166 #[.int .u32 s,.int .u8 b] w fun ev w'=>ev=.returned (.int .u32 (lN s b))/\w'=w:=by
 apply vc166;dsimp only[VC166,Br]
 try simp only[aI]
 refine⟨by omega,fun m s' i w'=>∃ p:Nat,i=(p:Int)/\p<=8/\m=8-p/\s'=tM p (jR .xor .u32 s b)/\w'=w,⟨_,0,rfl,by omega,rfl,rfl,rfl⟩,?_⟩;rintro m s' i w' ⟨p,rfl,hp,rfl,rfl,rfl⟩;have hr:=lO p (fS s b);have hn:=rL p (jR .xor .u32 s b);unfold wD at hn;rw[wN hr];refine⟨fun Dp=>⟨fun h1=>⟨by omega,by omega,8-(p+1),by omega,p+1,by omega,by omega,rfl,?_,rfl⟩,fun h1=>⟨by omega,by omega,8-(p+1),by omega,p+1,by omega,by omega,rfl,?_,rfl⟩⟩,fun Du=>?_⟩
 ·rw[hn,if_pos h1];rfl
 ·rw[hn,if_neg h1];rfl
 ·have:p=8:=by omega
  subst this;exact⟨rfl,rfl⟩
theorem tL{w:World}{A B:OA}{n c d:Nat}{l:List Int}(hp:bF w B [.slice A n c])(hr:bF w A (dB l))(hn:n=l.length)(hb:By l)(hl:l.length<=2^40):
    Calls P 144 #[.slice B 1 d] w fun ev w'=>ev=.returned (.int .u32 (mK l))/\w'=w:=by
  apply vc144;dsimp only[VC144,Br,Rd,Rs,Ix,cI]
  try simp only[aI]
  refine⟨fun m s i w'=>(i=0/\m=1/\s=4294967295/\w'=w)∨(i=1/\m=0/\s=jM 4294967295 l/\w'=w),⟨_,.inl ⟨rfl,rfl,rfl,rfl⟩⟩,?_⟩;rintro m s i w' (⟨rfl,rfl,rfl,rfl⟩ | ⟨rfl,rfl,rfl,rfl⟩)
  · refine⟨fun _=>?_,fun h=>absurd (show(0:Int)<((1:Nat):Int) by omega) h⟩;obtain⟨b,eB,fB⟩:=hp 0 (.slice A n c) rfl;refine⟨b,eB,by omega,by omega,A,n,c,fB,fun m s i w''=>∃ p:Nat,i=(p:Int)/\p<=l.length/\m=l.length-p/\s=jM 4294967295 (l.take p)/\w''=w',⟨_,0,rfl,by omega,rfl,rfl,rfl⟩,?_⟩;rintro m s i w'' ⟨p,rfl,Eu,rfl,rfl,rfl⟩;have tp:(p:Int).toNat=p:=by omega
    rw[tp];refine⟨fun Dp=>?_,fun Du=>?_⟩
    · have lp:p<l.length:=by omega
      obtain⟨a,eA,fA⟩:=hr p (.int .u8 l[p]) (by rw[List.getElem?_map,List.getElem?_eq_getElem lp];rfl);refine⟨a,eA,by omega,by omega,l[p],fA,(qA (hb _ (List.getElem_mem lp))).mono fun ev w3 hh=>?_⟩;obtain⟨rfl,rfl⟩:=hh;refine⟨_,rfl,by omega,l.length-(p+1),by omega,p+1,by omega,by omega,rfl,?_,rfl⟩;rw[List.take_succ_eq_append_getElem lp,lP];rfl
    · have EV:p=l.length:=by omega
      subst EV;rw[List.take_length];exact⟨by omega,0,by omega,.inr ⟨rfl,rfl,rfl,rfl⟩⟩
  · refine⟨fun h=>absurd h (by omega),fun _=>?_⟩;exact⟨rfl,rfl⟩
theorem xA{w:World}{A:OA}{n c:Nat}{l:List Int}(hr:bF w A (dB l))(hn:n=l.length)(hb:By l)(hl:l.length<=2^30):
    Calls P 133 #[.slice A n c] w fun ev w'=>∃(A':OA)(n' c':Nat),ev=.returned (.slice A' n' c')/\aE w' w.heap.size 5 1 A' n' c' (dB (fJ l))/\w.grownBy w' none:=by
  apply vc133;dsimp only[VC133,Br,Ap,cI,cS,nb]
  try simp only[aI]
  refine(iB hr hn (by omega)).mono fun ev w1 hh=>?_;obtain⟨A1,n1,c1,rfl,o1,g1⟩:=hh;have g2:=World.grownBy_alloc w1 (.cells #[.slice A n c] 22) none;have rP:bF (w1.alloc (.cells #[.slice A n c] 22)) (some ⟨w1.heap.size,0,none⟩) [.slice A n c]:=kY w1 #[.slice A n c] 22;refine⟨_,_,_,rfl,(tL rP ((hr.kept_none g1).kept_none g2) hn hb (by omega)).mono fun ev w2 hh=>?_⟩;obtain⟨rfl,rfl⟩:=hh;have Hz:=wC l;have Ef:=aB g1 g2;refine⟨_,rfl,fun m B k d s i W=>∃ p:Nat,i=(p:Int)/\p<=4/\m=4-p/\aE W w.heap.size 5 1 B k d (dB (l++bL (mK l) p))/\s=mK l / 256^p/\w.grownBy W none,⟨_,0,rfl,by omega,rfl,by simpa[bL]using o1.kp (S:=fun _=>False) (Kp.of_none g2) (fun _ _ e=>e),by simp,Ef⟩,?_⟩;rintro m B k d s i W ⟨p,rfl,hp,rfl,oW,rfl,gW⟩;refine⟨fun Dp=>?_,fun Du=>?_⟩
  · have Dx:k=l.length+p:=by have:=oW.cases.1;simp[aK]at this;omega
    obtain⟨A3,n3,c3,w3,r3,o3,g3,_⟩:=nB (x:=IntKind.wrap .u8 (mK l / 256^p)) oW (by omega) gW.size;have ob:=fun q hq=>(World.ownsRow.lt oW q hq).1;refine⟨A3,n3,c3,w3,r3,by omega,by omega,4-(p+1),by omega,p+1,by omega,by omega,rfl,?_,?_,aN gW g3 fun q hq=>ob q hq⟩
    · rw[qY,← List.append_assoc,← CU];exact o3
    · rw[show(2:Int)^8=256 by decide,Int.ediv_ediv_of_nonneg (Int.le_of_lt (oM p)),← Int.pow_succ]
  · have:p=4:=by omega
    subst this;exact⟨_,_,_,rfl,oW,gW⟩
theorem pP{w:World}{A B:OA}{n c m d:Nat}{a b:List Int}(hA:bF w A (dB a))(hn:n=a.length)(hB:bF w B (dB b))(hm:m=b.length)(hl:a.length<=2^40):
    Calls P 132 #[.slice A n c,.slice B m d] w fun ev w'=>ev=.returned (.bool (decide (a=b)))/\w.grownBy w' none:=by
  apply vc132;dsimp only[VC132,rb,Br,Rd,Ix]
  try simp only[aI]
  refine⟨fun Dq=>⟨?_,aF _ _⟩,fun KX=>?_⟩
  · rw[decide_eq_false (fun h=>Dq (by rw[hn,hm,h]))]
  have Kb:a.length=b.length:=by omega
  refine⟨fun q i W=>∃ p:Nat,i=(p:Int)/\p<=a.length/\q=a.length-p/\a.take p=b.take p/\w.grownBy W none,⟨_,0,rfl,by omega,rfl,rfl,aF _ _⟩,?_⟩;rintro q i W ⟨p,rfl,hp,rfl,ht,gW⟩;have tp:(p:Int).toNat=p:=by omega
  rw[tp];refine⟨fun Dp=>?_,fun Du=>?_⟩
  · have gd:=aG gW;have la:p<a.length:=by omega
    have lb:p<b.length:=by omega
    obtain⟨x,e1,e2⟩:=(hA.kept_none gd) p (.int .u8 a[p]) (by rw[List.getElem?_map,List.getElem?_eq_getElem la];rfl);obtain⟨y,f1,f2⟩:=(hB.kept_none gd) p (.int .u8 b[p]) (by rw[List.getElem?_map,List.getElem?_eq_getElem lb];rfl);refine⟨x,e1,by omega,by omega,_,e2,y,f1,by omega,by omega,_,f2,fun Dq=>⟨?_,gd⟩,fun he=>⟨by omega,a.length-(p+1),by omega,p+1,by omega,by omega,rfl,?_,gd⟩⟩
    · rw[decide_eq_false (fun h=>Dq (by subst h;rfl))]
    · rw[List.take_succ_eq_append_getElem la,List.take_succ_eq_append_getElem lb,ht,Decidable.not_not.1 he]
  · have:p=a.length:=by omega
    subst this;rw[List.take_length,Kb,List.take_length]at ht;rw[decide_eq_true ht];exact⟨rfl,gW⟩
theorem oS{w:World}{A:OA}{n c:Nat}{x:List Int}(hr:bF w A (dB x))(hn:n=x.length)(hc:n<=c)(hb:By x)(hl:x.length<=2^30)(hs:Cc x):
    Calls P 104 #[.slice A n c] w fun ev w'=>∃(A':OA)(n' c':Nat),ev=.returned (.tuple #[.slice A' n' c',.bool true])/\aE w' w.heap.size 5 1 A' n' c' (dB (x.take (x.length-4)))/\w.grownBy w' none:=by
  apply vc104;dsimp only[VC104,rt,Br,cB,cS]
  try simp only[aI]
  have h4:=hs.1;have tn:((n:Int)-4).toNat=x.length-4:=by omega
  rw[tn];have Il:∀ W,w.grownBy W none->bF W A (dB (x.take (x.length-4))):=fun W hW j u hj=>by
    rw[List.getElem?_map,List.getElem?_take]at hj;split at hj
    · exact(hr.kept_none hW) j u (by rw[List.getElem?_map];exact hj)
    · simp at hj
  have Iw:(x.take (x.length-4)).length=x.length-4:=by rw[List.length_take];omega
  refine⟨by omega,fun h=>absurd h (by omega),fun _=>⟨⟨by omega,by omega⟩,(xA (Il w (aF _ _)) Iw.symm (hb.take _) (by omega)).mono fun ev w1 hh=>?_⟩⟩;obtain⟨A1,n1,c1,rfl,o1,g1⟩:=hh;have EX:n1=(fJ (x.take (x.length-4))).length:=by have:=o1.cases.1;simp at this;omega
  refine⟨_,_,_,rfl,(pP o1.row EX (hr.kept_none g1) hn (by rw[gR];omega)).mono fun ev w2 hh=>?_⟩;obtain⟨rfl,g2⟩:=hh;refine⟨_,rfl,fun h=>absurd hs.2.symm (of_decide_eq_false h),fun _=>⟨⟨by omega,by omega⟩,(iB (Il w2 (aB g1 g2)) Iw.symm (by omega)).mono fun ev w3 hh=>?_⟩⟩;obtain⟨A3,n3,c3,rfl,o3,g3⟩:=hh;have s1:=g1.size;have s2:=g2.size;refine⟨_,_,_,rfl,_,_,_,rfl,o3.mono (by omega),aB g1 (aB g2 g3)⟩
end Go.Proofs.YtdlomlmijdifbaaGreatDoor

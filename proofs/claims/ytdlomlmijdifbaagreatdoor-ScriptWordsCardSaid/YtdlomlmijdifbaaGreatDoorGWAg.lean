/- Own texts, packed: W1, W2, W3, W4, W5. -/
import Derived.Test.YtdlomlmijdifbaaGreatDoorGIg
import Derived.Test.YtdlomlmijdifbaaGreatDoorGAg
import Derived.Test.YtdlomlmijdifbaaGreatDoorGOg
import Derived.Test.YtdlomlmijdifbaaGreatDoorGPg
import Derived.Test.YtdlomlmijdifbaaGreatDoorGCg
import Derived.Test.YtdlomlmijdifbaaGreatDoorGWXg
/-! Numbers in so many bytes, the lowest first. Plain Lean; no program. -/
set_option linter.unusedVariables false
set_option linter.unusedSimpArgs false
set_option maxRecDepth 100000
set_option maxHeartbeats 4000000
namespace Go.V
def bC(v:Int):Nat->List Int
 | 0=>[]
 | n+1=>v % 256 ::bC (v / 256) n
def dM:List Int->Int
 | []=>0
 | b ::l=>b+256*dM l
theorem aJ(v:Int):∀ n,(bC v n).length=n
 | 0=>rfl
 | n+1=>by show(bC (v / 256) n).length+1=n+1;rw[aJ]
theorem wA(v:Int)(n:Nat):∀ x∈bC v n,0<=x/\x<=255:=by
 induction n generalizing v with
 | zero=>intro x hx;cases hx
 | succ n ih =>
  intro x hx;rcases List.mem_cons.1 hx with rfl | hx
  ·omega
  ·exact ih _ x hx
theorem qD(n:Nat):(256:Int)^(n+1)=256*256^n:=by rw[Int.pow_succ];omega
theorem mU(n:Nat):0<(256:Int)^n:=Int.pow_pos (by omega)
theorem eT:∀ (n:Nat) {v:Int},0<=v->v<256^n->dM (bC v n)=v
 | 0,v,h0,h1=>by simp at h1;show(0:Int)=v;omega
 | n+1,v,h0,h1=>by
  rw[qD]at h1;have h2:v / 256<256^n:=Int.ediv_lt_of_lt_mul (by omega) (by rw[Int.mul_comm];exact h1);show v % 256+256*dM (bC (v / 256) n)=v;rw[eT n (by omega) h2];omega
theorem wZ:∀ {l:List Int},(∀ x∈l,0<=x/\x<=255)->0<=dM l/\dM l<256^l.length
 | [],_=>by simp[dM]
 | b ::l,h=>by
  have ih:=wZ (l:=l) fun x hx=>h x (by simp[hx]);have hb:=h b (by simp);show 0<=b+256*dM l/\b+256*dM l<256^(l.length+1);rw[qD];omega
theorem sO(l m:List Int):dM (l++m)=dM l+256^l.length*dM m:=by
 induction l with
 | nil=>simp[dM]
 | cons b l ih =>
  show b+256*dM (l++m)=b+256*dM l+256^(l.length+1)*dM m;rw[ih,qD,Int.mul_add,Int.mul_assoc];omega
theorem pB(v:Int)(n:Nat):bC v (n+1)=bC v n++[v / 256^n % 256]:=by
 induction n generalizing v with
 | zero=>simp[bC]
 | succ n ih =>
  show v % 256 ::bC (v / 256) (n+1)=v % 256 ::(bC (v / 256) n++[v / 256^(n+1) % 256]);rw[ih,qD,Int.ediv_ediv_of_nonneg (by omega)]
end Go.V
/-! Sums of bytes, seals. Plain Lean; no program. -/
namespace Go.V
open Go
theorem wL(x y:Int):iS .xor .u32 x y=((BitVec.ofInt 32 x^^^BitVec.ofInt 32 y).toNat:Int):=by
 show IntKind.u32.wrap ((BitVec.ofInt 32 x^^^BitVec.ofInt 32 y).toNat:Int)=_;have:=(BitVec.ofInt 32 x^^^BitVec.ofInt 32 y).isLt;exact cV (by simp only[aH];omega)
theorem eX(x y:Int):0<=iS .xor .u32 x y/\iS .xor .u32 x y<=4294967295:=by
 rw[wL];have:=(BitVec.ofInt 32 x^^^BitVec.ofInt 32 y).isLt;omega
theorem uE{s:Int}(h:0<=s/\s<=4294967295):iS .xor .u32 4294967295 (iS .xor .u32 4294967295 s)=s:=by
 rw[wL,wL,BitVec.ofInt_natCast,BitVec.ofNat_toNat,BitVec.setWidth_eq,← BitVec.xor_assoc,BitVec.xor_self,BitVec.zero_xor];obtain⟨n,rfl⟩:∃ n:Nat,s=n:=⟨s.toNat,by omega⟩;rw[BitVec.ofInt_natCast,BitVec.toNat_ofNat,Nat.mod_eq_of_lt (by omega)]
theorem uH{s:Int}(h:0<=s/\s<=4294967295):iS .and .u32 s 1=s % 2:=by
 show IntKind.u32.wrap ((BitVec.ofInt 32 s &&& BitVec.ofInt 32 1).toNat:Int)=_;obtain⟨n,rfl⟩:∃ n:Nat,s=n:=⟨s.toNat,by omega⟩;have e:(BitVec.ofInt 32 (n:Int) &&& BitVec.ofInt 32 1).toNat=n % 2:=by
  rw[BitVec.ofInt_natCast,show BitVec.ofInt 32 1=BitVec.ofNat 32 1 from rfl,BitVec.toNat_and,BitVec.toNat_ofNat,BitVec.toNat_ofNat,Nat.mod_eq_of_lt (by omega),show 1 % 2^32=1 from rfl,Nat.and_one_is_mod]
 rw[e,cV (by simp only[aH];omega)];omega
def tX(s:Int):Int:=if s % 2=1 then iS .xor .u32 (s / 2) 3988292384 else s / 2
def qU:Nat->Int->Int
 | 0,s=>s
 | n+1,s=>qU n (tX s)
def kK(s b:Int):Int:=qU 8 (iS .xor .u32 s b)
def iJ(s:Int):List Int->Int
 | []=>s
 | b ::l=>iJ (kK s b) l
def lF(l:List Int):Int:=iS .xor .u32 4294967295 (iJ 4294967295 l)
theorem Au{s:Int}(h:0<=s/\s<=4294967295):0<=tX s/\tX s<=4294967295:=by
 unfold tX;split
 ·exact eX _ _
 ·omega
theorem kL:∀ (n:Nat) {s:Int},(0<=s/\s<=4294967295)->0<=qU n s/\qU n s<=4294967295
 | 0,s,h=>h
 | n+1,s,h=>kL n (Au h)
theorem pH(n:Nat)(s:Int):qU (n+1) s=tX (qU n s):=by
 induction n generalizing s with
 | zero=>rfl
 | succ n ih=>show qU (n+1) (tX s)=_;rw[ih];rfl
theorem tV(s b:Int):0<=kK s b/\kK s b<=4294967295:=kL 8 (eX _ _)
theorem pI:∀ (l:List Int) {s:Int},(0<=s/\s<=4294967295)->0<=iJ s l/\iJ s l<=4294967295
 | [],s,h=>h
 | b ::l,s,h=>pI l (tV s b)
theorem kM(s:Int)(l m:List Int):iJ s (l++m)=iJ (iJ s l) m:=by
 induction l generalizing s with
 | nil=>rfl
 | cons b l ih=>exact ih _
theorem tW(l:List Int):0<=lF l/\lF l<256^4:=by
 have:=eX 4294967295 (iJ 4294967295 l);unfold lF;omega
def eO(b:List Int):List Int:=b++bC (lF b) 4
theorem fU(b:List Int):(eO b).length=b.length+4:=by unfold eO;rw[List.length_append,aJ]
def AD(x:List Int):Prop:=4<=x.length/\x=eO (x.take (x.length-4))
theorem hM(b:List Int):AD (eO b)/\(eO b).take ((eO b).length-4)=b:=by
 have h:(eO b).take ((eO b).length-4)=b:=by
  rw[fU,show b.length+4-4=b.length by omega];unfold eO;exact List.take_left' rfl
 exact⟨⟨by rw[fU];omega,by rw[h]⟩,h⟩
end Go.V
/-! Heads, rows, as bytes. Plain Lean; no program. -/
namespace Go.V
open Go
def By(l:List Int):Prop:=∀ b∈l,0<=b/\b<=255
theorem By.append{l m:List Int}(h:By l)(h':By m):By (l++m):=fun b hb=>(List.mem_append.1 hb).elim (h b) (h' b)
theorem By.fix(v:Int)(n:Nat):By (bC v n):=wA v n
theorem By.sld{l:List Int}(h:By l):By (eO l):=h.append (.fix _ _)
theorem By.take{l:List Int}(h:By l)(n:Nat):By (l.take n):=fun b hb=>h b (List.mem_of_mem_take hb)
theorem By.drop{l:List Int}(h:By l)(n:Nat):By (l.drop n):=fun b hb=>h b (List.mem_of_mem_drop hb)
def dE(N K C:Int):Prop:=N<=4294967296/\1<=K/\K<=1048576/\0<=C/\C<=2147483648
instance (N K C:Int):Decidable (dE N K C):=inferInstanceAs (Decidable (_/\_/\_/\_/\_))
def kE(N K C:Int):List Int:=([84,71,88,49]++bC N 8)++bC K 4++bC C 4
def fF(N K C:Int):List Int:=eO (kE N K C)
theorem pA(N K C:Int):(kE N K C).length=20:=by unfold kE;simp only[List.length_append,aJ];rfl
theorem dX(N K C:Int):(fF N K C).length=24:=by unfold fF;rw[fU,pA]
theorem sZ(N K C:Int):By (kE N K C):=by
 unfold kE;refine((By.append ?_ (.fix _ _)).append (.fix _ _)).append (.fix _ _);intro b hb;simp at hb;omega
theorem tB(N K C:Int):By (fF N K C):=(sZ N K C).sld
theorem fE(N K C:Int):fF N K C=[84,71,88,49]++(bC N 8++(bC K 4++(bC C 4++bC (lF (kE N K C)) 4))):=by
 unfold fF eO;rw[show kE N K C=([84,71,88,49]++bC N 8)++bC K 4++bC C 4 from rfl];simp only[List.append_assoc]
theorem nC{l m r:List Int}{a b:Nat}(hl:l.length=a)(hm:m.length=b):((l++(m++r)).drop a).take b=m:=by
 rw[List.drop_left' hl,List.take_left' hm]
theorem tA(N K C:Int)(r:List Int):(fF N K C++r).take 4=[84,71,88,49]:=by
 rw[fE,List.append_assoc];rfl
theorem Bg(N K C:Int)(r:List Int):((fF N K C++r).drop 4).take 8=bC N 8:=by
 rw[fE,List.append_assoc,List.append_assoc];exact nC rfl (aJ _ _)
theorem Bh(N K C:Int)(r:List Int):((fF N K C++r).drop 12).take 4=bC K 4:=by
 rw[fE];simp only[List.append_assoc];rw[← List.append_assoc [84,71,88,49]];exact nC (by rw[List.length_append,aJ];rfl) (aJ _ _)
theorem Bi(N K C:Int)(r:List Int):((fF N K C++r).drop 16).take 4=bC C 4:=by
 rw[fE];simp only[List.append_assoc];rw[← List.append_assoc [84,71,88,49],← List.append_assoc ([84,71,88,49]++bC N 8)];exact nC (by simp only[List.length_append,aJ];rfl) (aJ _ _)
structure cJ where
 (len first sum:Int)
def eR(r:cJ):List Int:=bC r.len 4++(bC r.first 8++bC r.sum 4)
def hZ(l:List cJ):List Int:=l.flatMap eR++[88,71,84,49]
def iZ(l:List cJ):List Int:=eO (hZ l)
theorem mP(r:cJ):(eR r).length=16:=by unfold eR;simp only[List.length_append,aJ]
theorem fZ(l:List cJ):(l.flatMap eR).length=16*l.length:=by
 induction l with
 | nil=>rfl
 | cons r l ih=>rw[List.flatMap_cons,List.length_append,ih,mP,List.length_cons];omega
theorem iP(l:List cJ):(hZ l).length=16*l.length+4:=by unfold hZ;rw[List.length_append,fZ];rfl
theorem fV(l:List cJ):(iZ l).length=16*l.length+8:=by unfold iZ;rw[fU,iP]
theorem wT(r:cJ):By (eR r):=(By.fix _ _).append ((By.fix _ _).append (.fix _ _))
theorem tG(l:List cJ):By (l.flatMap eR):=fun b hb=>by
 obtain⟨r,_,hr⟩:=List.mem_flatMap.1 hb;exact wT r b hr
theorem sD(l:List cJ):By (hZ l):=(tG l).append fun b hb=>by simp at hb;omega
theorem sE(l:List cJ):By (iZ l):=(sD l).sld
def iA(last:Int):List cJ->Bool
 | []=>true
 | r ::l=>decide (1<=r.len/\r.len<=4294967295/\last<=r.first/\r.first<=4611686018427387903) && iA r.first l
def jE(l:List cJ):Bool:=iA 0 l
def cG(l:List cJ):Int:=(l.map cJ.len).sum
theorem oA(l m:List cJ):cG (l++m)=cG l+cG m:=by unfold cG;rw[List.map_append,List.sum_append]
structure Bq(r:cJ):Prop where
 len:1<=r.len/\r.len<=4294967295
 first:0<=r.first/\r.first<=4611686018427387903
 sum:0<=r.sum/\r.sum<=4294967295
theorem jF:∀ {l:List cJ} {last:Int},iA last l=true->∀ r∈l,(1<=r.len/\r.len<=4294967295)/\last<=r.first/\r.first<=4611686018427387903
 | [],last,_,r,hr=>by cases hr
 | x ::l,last,h,r,hr=>by
  unfold iA at h;rw[Bool.and_eq_true,decide_eq_true_iff]at h;rcases List.mem_cons.1 hr with rfl | hr
  ·exact⟨⟨h.1.1,h.1.2.1⟩,h.1.2.2.1,h.1.2.2.2⟩
  ·have:=jF h.2 r hr;exact⟨this.1,by omega,this.2.2⟩
theorem gK:∀ {l:List cJ},(∀ r∈l,1<=r.len)->(l.length:Int)<=cG l
 | [],_=>by simp[cG]
 | x ::l,h=>by
  have ih:=gK (l:=l) fun r hr=>h r (by simp[hr]);have hx:=h x (by simp);have:cG (x ::l)=x.len+cG l:=by unfold cG;simp
  rw[this,List.length_cons];omega
theorem yC{r:cJ}(h:Bq r)(s:List Int):dM ((eR r++s).take 4)=r.len/\dM (((eR r++s).drop 4).take 8)=r.first/\dM (((eR r++s).drop 12).take 4)=r.sum:=by
 obtain⟨h1,h2,h3⟩:=h;refine⟨?_,?_,?_⟩
 ·unfold eR;rw[List.append_assoc,List.take_left' (aJ _ _),eT 4 (by omega) (by omega)]
 ·unfold eR;rw[List.append_assoc,List.append_assoc,nC (aJ _ _) (aJ _ _),eT 8 (by omega) (by omega)]
 ·unfold eR;rw[← List.append_assoc (bC r.len 4),List.append_assoc (bC r.len 4++bC r.first 8),nC (by simp only[List.length_append,aJ]) (aJ _ _),eT 4 (by omega) (by omega)]
end Go.V
/-! Files of histories, as bytes. Lists alone. -/
namespace Go.Proofs.YtdlomlmijdifbaaGreatDoor
open Go Go.V Go.RowKit
section
variable {N : Int} {l : List rH} {k i m : Nat}
end
end Go.Proofs.YtdlomlmijdifbaaGreatDoor
/-! crc: the walks. -/
namespace Go.Proofs.YtdlomlmijdifbaaGreatDoor
open Go Go.V Go.RowKit
theorem Bx{v:Int}:IntKind.wrap .u8 v=v % 256:=by
 have:=cV (k:=.u8) (z:=v % 256) (by simp only[aH];omega);simp only[IntKind.wrap,IntKind.bits,IntKind.signed]at *;simp at *
theorem oG{w:World}{s b:Int}(hb:0<=b/\b<=255):Calls P 166 #[.int .u32 s,.int .u8 b] w fun ev w'=>ev=.returned (.int .u32 (kK s b))/\w'=w:=by
 apply vc166;dsimp only[VC166,Br]
 try simp only[aH]
 refine⟨by omega,fun m s' i w'=>∃ p:Nat,i=(p:Int)/\p<=8/\m=8-p/\s'=qU p (iS .xor .u32 s b)/\w'=w,⟨_,0,rfl,by omega,rfl,rfl,rfl⟩,?_⟩;rintro m s' i w' ⟨p,rfl,hp,rfl,rfl,rfl⟩;have hr:=kL p (eX s b);have hn:=pH p (iS .xor .u32 s b);unfold tX at hn;rw[uH hr];refine⟨fun Cc=>⟨fun h1=>⟨by omega,by omega,8-(p+1),by omega,p+1,by omega,by omega,rfl,?_,rfl⟩,fun h1=>⟨by omega,by omega,8-(p+1),by omega,p+1,by omega,by omega,rfl,?_,rfl⟩⟩,fun Ck=>?_⟩
 ·rw[hn,if_pos h1];rfl
 ·rw[hn,if_neg h1];rfl
 ·have:p=8:=by omega
  subst this;exact⟨rfl,rfl⟩
theorem qT{w:World}{A B:OA}{n c d:Nat}{l:List Int}(hp:bS w B [.slice A n c])(hr:bS w A (cR l))(hn:n=l.length)(hb:By l)(hl:l.length<=2^40):
    Calls P 144 #[.slice B 1 d] w fun ev w'=>ev=.returned (.int .u32 (lF l))/\w'=w:=by
  apply vc144;dsimp only[VC144,Br,Rd,Rs,Ix,cI]
  try simp only[aH]
  refine⟨fun m s i w'=>(i=0/\m=1/\s=4294967295/\w'=w)∨(i=1/\m=0/\s=iJ 4294967295 l/\w'=w),⟨_,.inl ⟨rfl,rfl,rfl,rfl⟩⟩,?_⟩;rintro m s i w' (⟨rfl,rfl,rfl,rfl⟩ | ⟨rfl,rfl,rfl,rfl⟩)
  · refine⟨fun _=>?_,fun h=>absurd (show(0:Int)<((1:Nat):Int) by omega) h⟩;obtain⟨b,eB,fB⟩:=hp 0 (.slice A n c) rfl;refine⟨b,eB,by omega,by omega,A,n,c,fB,fun m s i w''=>∃ p:Nat,i=(p:Int)/\p<=l.length/\m=l.length-p/\s=iJ 4294967295 (l.take p)/\w''=w',⟨_,0,rfl,by omega,rfl,rfl,rfl⟩,?_⟩;rintro m s i w'' ⟨p,rfl,C1,rfl,rfl,rfl⟩;have tp:(p:Int).toNat=p:=by omega
    rw[tp];refine⟨fun Cc=>?_,fun Ck=>?_⟩
    · have lp:p<l.length:=by omega
      obtain⟨a,eA,fA⟩:=hr p (.int .u8 l[p]) (by rw[List.getElem?_map,List.getElem?_eq_getElem lp];rfl);refine⟨a,eA,by omega,by omega,l[p],fA,(oG (hb _ (List.getElem_mem lp))).mono fun ev w3 hh=>?_⟩;obtain⟨rfl,rfl⟩:=hh;refine⟨_,rfl,by omega,l.length-(p+1),by omega,p+1,by omega,by omega,rfl,?_,rfl⟩;rw[List.take_succ_eq_append_getElem lp,kM];rfl
    · have Dp:p=l.length:=by omega
      subst Dp;rw[List.take_length];exact⟨by omega,0,by omega,.inr ⟨rfl,rfl,rfl,rfl⟩⟩
  · refine⟨fun h=>absurd h (by omega),fun _=>?_⟩;exact⟨rfl,rfl⟩
theorem uU{w:World}{A:OA}{n c:Nat}{l:List Int}(hr:bS w A (cR l))(hn:n=l.length)(hb:By l)(hl:l.length<=2^30):
    Calls P 133 #[.slice A n c] w fun ev w'=>∃(A':OA)(n' c':Nat),ev=.returned (.slice A' n' c')/\aE w' w.heap.size 5 1 A' n' c' (cR (eO l))/\w.grownBy w' none:=by
  apply vc133;dsimp only[VC133,Br,Ap,cI,cS,nb]
  try simp only[aH]
  refine(gC hr hn (by omega)).mono fun ev w1 hh=>?_;obtain⟨A1,n1,c1,rfl,o1,g1⟩:=hh;have g2:=World.grownBy_alloc w1 (.cells #[.slice A n c] 22) none;have rP:bS (w1.alloc (.cells #[.slice A n c] 22)) (some ⟨w1.heap.size,0,none⟩) [.slice A n c]:=jX w1 #[.slice A n c] 22;refine⟨_,_,_,rfl,(qT rP ((hr.kept_none g1).kept_none g2) hn hb (by omega)).mono fun ev w2 hh=>?_⟩;obtain⟨rfl,rfl⟩:=hh;have HK:=tW l;have C9:=aB g1 g2;refine⟨_,rfl,fun m B k d s i W=>∃ p:Nat,i=(p:Int)/\p<=4/\m=4-p/\aE W w.heap.size 5 1 B k d (cR (l++bC (lF l) p))/\s=lF l / 256^p/\w.grownBy W none,⟨_,0,rfl,by omega,rfl,by simpa[bC]using o1.kp (S:=fun _=>False) (Kp.of_none g2) (fun _ _ e=>e),by simp,C9⟩,?_⟩;rintro m B k d s i W ⟨p,rfl,hp,rfl,oW,rfl,gW⟩;refine⟨fun Cc=>?_,fun Ck=>?_⟩
  · have Ch:k=l.length+p:=by have:=oW.cases.1;simp[aJ]at this;omega
    obtain⟨A3,n3,c3,w3,r3,o3,g3,_⟩:=lQ (x:=IntKind.wrap .u8 (lF l / 256^p)) oW (by omega) gW.size;have ob:=fun q hq=>(World.ownsRow.lt oW q hq).1;refine⟨A3,n3,c3,w3,r3,by omega,by omega,4-(p+1),by omega,p+1,by omega,by omega,rfl,?_,?_,aP gW g3 fun q hq=>ob q hq⟩
    · rw[pB,← List.append_assoc,← Bx];exact o3
    · rw[show(2:Int)^8=256 by decide,Int.ediv_ediv_of_nonneg (Int.le_of_lt (mU p)),← Int.pow_succ]
  · have:p=4:=by omega
    subst this;exact⟨_,_,_,rfl,oW,gW⟩
theorem nV{w:World}{A B:OA}{n c m d:Nat}{a b:List Int}(hA:bS w A (cR a))(hn:n=a.length)(hB:bS w B (cR b))(hm:m=b.length)(hl:a.length<=2^40):
    Calls P 132 #[.slice A n c,.slice B m d] w fun ev w'=>ev=.returned (.bool (decide (a=b)))/\w.grownBy w' none:=by
  apply vc132;dsimp only[VC132,rb,Br,Rd,Ix]
  try simp only[aH]
  refine⟨fun Cg=>⟨?_,aF _ _⟩,fun IG=>?_⟩
  · rw[decide_eq_false (fun h=>Cg (by rw[hn,hm,h]))]
  have HS:a.length=b.length:=by omega
  refine⟨fun q i W=>∃ p:Nat,i=(p:Int)/\p<=a.length/\q=a.length-p/\a.take p=b.take p/\w.grownBy W none,⟨_,0,rfl,by omega,rfl,rfl,aF _ _⟩,?_⟩;rintro q i W ⟨p,rfl,hp,rfl,ht,gW⟩;have tp:(p:Int).toNat=p:=by omega
  rw[tp];refine⟨fun Cc=>?_,fun Ck=>?_⟩
  · have gd:=aK gW;have la:p<a.length:=by omega
    have lb:p<b.length:=by omega
    obtain⟨x,e1,e2⟩:=(hA.kept_none gd) p (.int .u8 a[p]) (by rw[List.getElem?_map,List.getElem?_eq_getElem la];rfl);obtain⟨y,f1,f2⟩:=(hB.kept_none gd) p (.int .u8 b[p]) (by rw[List.getElem?_map,List.getElem?_eq_getElem lb];rfl);refine⟨x,e1,by omega,by omega,_,e2,y,f1,by omega,by omega,_,f2,fun Cg=>⟨?_,gd⟩,fun he=>⟨by omega,a.length-(p+1),by omega,p+1,by omega,by omega,rfl,?_,gd⟩⟩
    · rw[decide_eq_false (fun h=>Cg (by subst h;rfl))]
    · rw[List.take_succ_eq_append_getElem la,List.take_succ_eq_append_getElem lb,ht,Decidable.not_not.1 he]
  · have:p=a.length:=by omega
    subst this;rw[List.take_length,HS,List.take_length]at ht;rw[decide_eq_true ht];exact⟨rfl,gW⟩
theorem nB{w:World}{A:OA}{n c:Nat}{x:List Int}(hr:bS w A (cR x))(hn:n=x.length)(hc:n<=c)(hb:By x)(hl:x.length<=2^30)(hs:AD x):
    Calls P 104 #[.slice A n c] w fun ev w'=>∃(A':OA)(n' c':Nat),ev=.returned (.tuple #[.slice A' n' c',.bool true])/\aE w' w.heap.size 5 1 A' n' c' (cR (x.take (x.length-4)))/\w.grownBy w' none:=by
  apply vc104;dsimp only[VC104,rt,Br,cB,cS]
  try simp only[aH]
  have h4:=hs.1;have tn:((n:Int)-4).toNat=x.length-4:=by omega
  rw[tn];have Ge:∀ W,w.grownBy W none->bS W A (cR (x.take (x.length-4))):=fun W hW j u hj=>by
    rw[List.getElem?_map,List.getElem?_take]at hj;split at hj
    · exact(hr.kept_none hW) j u (by rw[List.getElem?_map];exact hj)
    · simp at hj
  have Gj:(x.take (x.length-4)).length=x.length-4:=by rw[List.length_take];omega
  refine⟨by omega,fun h=>absurd h (by omega),fun _=>⟨⟨by omega,by omega⟩,(uU (Ge w (aF _ _)) Gj.symm (hb.take _) (by omega)).mono fun ev w1 hh=>?_⟩⟩;obtain⟨A1,n1,c1,rfl,o1,g1⟩:=hh;have Dq:n1=(eO (x.take (x.length-4))).length:=by have:=o1.cases.1;simp at this;omega
  refine⟨_,_,_,rfl,(nV o1.row Dq (hr.kept_none g1) hn (by rw[fU];omega)).mono fun ev w2 hh=>?_⟩;obtain⟨rfl,g2⟩:=hh;refine⟨_,rfl,fun h=>absurd hs.2.symm (of_decide_eq_false h),fun _=>⟨⟨by omega,by omega⟩,(gC (Ge w2 (aB g1 g2)) Gj.symm (by omega)).mono fun ev w3 hh=>?_⟩⟩;obtain⟨A3,n3,c3,rfl,o3,g3⟩:=hh;have s1:=g1.size;have s2:=g2.size;refine⟨_,_,_,rfl,_,_,_,rfl,o3.mono (by omega),aB g1 (aB g2 g3)⟩
end Go.Proofs.YtdlomlmijdifbaaGreatDoor

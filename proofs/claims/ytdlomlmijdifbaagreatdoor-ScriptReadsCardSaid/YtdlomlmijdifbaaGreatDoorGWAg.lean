/- Own texts, packed: W1, W2, W3, W4, W5. -/
import Derived.Test.YtdlomlmijdifbaaGreatDoorGIg
import Derived.Test.YtdlomlmijdifbaaGreatDoorGAg
import Derived.Test.YtdlomlmijdifbaaGreatDoorGOg
import Derived.Test.YtdlomlmijdifbaaGreatDoorGPg
import Derived.Test.YtdlomlmijdifbaaGreatDoorGCg
import Derived.Test.YtdlomlmijdifbaaGreatDoorGWXg
/-! Numbers in so many bytes, the lowest first. Plain Lean; no program. -/
set_option linter.unusedVariables false
set_option linter.unusedSimpArgs false
set_option maxRecDepth 100000
set_option maxHeartbeats 4000000
namespace Go.V
def bP(v:Int):Nat->List Int
 | 0=>[]
 | n+1=>v % 256 ::bP (v / 256) n
def eP:List Int->Int
 | []=>0
 | b ::l=>b+256*eP l
theorem aM(v:Int):∀ n,(bP v n).length=n
 | 0=>rfl
 | n+1=>by show(bP (v / 256) n).length+1=n+1;rw[aM]
theorem zY(v:Int)(n:Nat):∀ x∈bP v n,0<=x/\x<=255:=by
 induction n generalizing v with
 | zero=>intro x hx;cases hx
 | succ n ih =>
  intro x hx;rcases List.mem_cons.1 hx with rfl | hx
  ·omega
  ·exact ih _ x hx
theorem tU(n:Nat):(256:Int)^(n+1)=256*256^n:=by rw[Int.pow_succ];omega
theorem pI(n:Nat):0<(256:Int)^n:=Int.pow_pos (by omega)
theorem fV:∀ (n:Nat) {v:Int},0<=v->v<256^n->eP (bP v n)=v
 | 0,v,h0,h1=>by simp at h1;show(0:Int)=v;omega
 | n+1,v,h0,h1=>by
  rw[tU]at h1;have h2:v / 256<256^n:=Int.ediv_lt_of_lt_mul (by omega) (by rw[Int.mul_comm];exact h1);show v % 256+256*eP (bP (v / 256) n)=v;rw[fV n (by omega) h2];omega
theorem AC:∀ {l:List Int},(∀ x∈l,0<=x/\x<=255)->0<=eP l/\eP l<256^l.length
 | [],_=>by simp[eP]
 | b ::l,h=>by
  have ih:=AC (l:=l) fun x hx=>h x (by simp[hx]);have hb:=h b (by simp);show 0<=b+256*eP l/\b+256*eP l<256^(l.length+1);rw[tU];omega
theorem wA(l m:List Int):eP (l++m)=eP l+256^l.length*eP m:=by
 induction l with
 | nil=>simp[eP]
 | cons b l ih =>
  show b+256*eP (l++m)=b+256*eP l+256^(l.length+1)*eP m;rw[ih,tU,Int.mul_add,Int.mul_assoc];omega
theorem sH(v:Int)(n:Nat):bP v (n+1)=bP v n++[v / 256^n % 256]:=by
 induction n generalizing v with
 | zero=>simp[bP]
 | succ n ih =>
  show v % 256 ::bP (v / 256) (n+1)=v % 256 ::(bP (v / 256) n++[v / 256^(n+1) % 256]);rw[ih,tU,Int.ediv_ediv_of_nonneg (by omega)]
end Go.V
/-! Sums of bytes, seals. Plain Lean; no program. -/
namespace Go.V
open Go
theorem Aj(x y:Int):kD .xor .u32 x y=((BitVec.ofInt 32 x^^^BitVec.ofInt 32 y).toNat:Int):=by
 show IntKind.u32.wrap ((BitVec.ofInt 32 x^^^BitVec.ofInt 32 y).toNat:Int)=_;have:=(BitVec.ofInt 32 x^^^BitVec.ofInt 32 y).isLt;exact dP (by simp only[aI];omega)
theorem fZ(x y:Int):0<=kD .xor .u32 x y/\kD .xor .u32 x y<=4294967295:=by
 rw[Aj];have:=(BitVec.ofInt 32 x^^^BitVec.ofInt 32 y).isLt;omega
theorem xM{s:Int}(h:0<=s/\s<=4294967295):kD .xor .u32 4294967295 (kD .xor .u32 4294967295 s)=s:=by
 rw[Aj,Aj,BitVec.ofInt_natCast,BitVec.ofNat_toNat,BitVec.setWidth_eq,← BitVec.xor_assoc,BitVec.xor_self,BitVec.zero_xor];obtain⟨n,rfl⟩:∃ n:Nat,s=n:=⟨s.toNat,by omega⟩;rw[BitVec.ofInt_natCast,BitVec.toNat_ofNat,Nat.mod_eq_of_lt (by omega)]
theorem xP{s:Int}(h:0<=s/\s<=4294967295):kD .and .u32 s 1=s % 2:=by
 show IntKind.u32.wrap ((BitVec.ofInt 32 s &&& BitVec.ofInt 32 1).toNat:Int)=_;obtain⟨n,rfl⟩:∃ n:Nat,s=n:=⟨s.toNat,by omega⟩;have e:(BitVec.ofInt 32 (n:Int) &&& BitVec.ofInt 32 1).toNat=n % 2:=by
  rw[BitVec.ofInt_natCast,show BitVec.ofInt 32 1=BitVec.ofNat 32 1 from rfl,BitVec.toNat_and,BitVec.toNat_ofNat,BitVec.toNat_ofNat,Nat.mod_eq_of_lt (by omega),show 1 % 2^32=1 from rfl,Nat.and_one_is_mod]
 rw[e,dP (by simp only[aI];omega)];omega
def xG(s:Int):Int:=if s % 2=1 then kD .xor .u32 (s / 2) 3988292384 else s / 2
def uN:Nat->Int->Int
 | 0,s=>s
 | n+1,s=>uN n (xG s)
def mA(s b:Int):Int:=uN 8 (kD .xor .u32 s b)
def jW(s:Int):List Int->Int
 | []=>s
 | b ::l=>jW (mA s b) l
def nC(l:List Int):Int:=kD .xor .u32 4294967295 (jW 4294967295 l)
theorem Cl{s:Int}(h:0<=s/\s<=4294967295):0<=xG s/\xG s<=4294967295:=by
 unfold xG;split
 ·exact fZ _ _
 ·omega
theorem mB:∀ (n:Nat) {s:Int},(0<=s/\s<=4294967295)->0<=uN n s/\uN n s<=4294967295
 | 0,s,h=>h
 | n+1,s,h=>mB n (Cl h)
theorem sQ(n:Nat)(s:Int):uN (n+1) s=xG (uN n s):=by
 induction n generalizing s with
 | zero=>rfl
 | succ n ih=>show uN (n+1) (xG s)=_;rw[ih];rfl
theorem xE(s b:Int):0<=mA s b/\mA s b<=4294967295:=mB 8 (fZ _ _)
theorem sR:∀ (l:List Int) {s:Int},(0<=s/\s<=4294967295)->0<=jW s l/\jW s l<=4294967295
 | [],s,h=>h
 | b ::l,s,h=>sR l (xE s b)
theorem mC(s:Int)(l m:List Int):jW s (l++m)=jW (jW s l) m:=by
 induction l generalizing s with
 | nil=>rfl
 | cons b l ih=>exact ih _
theorem xF(l:List Int):0<=nC l/\nC l<256^4:=by
 have:=fZ 4294967295 (jW 4294967295 l);unfold nC;omega
def fO(b:List Int):List Int:=b++bP (nC b) 4
theorem iD(b:List Int):(fO b).length=b.length+4:=by unfold fO;rw[List.length_append,aM]
def Cy(x:List Int):Prop:=4<=x.length/\x=fO (x.take (x.length-4))
theorem jM(b:List Int):Cy (fO b)/\(fO b).take ((fO b).length-4)=b:=by
 have h:(fO b).take ((fO b).length-4)=b:=by
  rw[iD,show b.length+4-4=b.length by omega];unfold fO;exact List.take_left' rfl
 exact⟨⟨by rw[iD];omega,by rw[h]⟩,h⟩
end Go.V
/-! Heads, rows, as bytes. Plain Lean; no program. -/
namespace Go.V
open Go
def By(l:List Int):Prop:=∀ b∈l,0<=b/\b<=255
theorem By.append{l m:List Int}(h:By l)(h':By m):By (l++m):=fun b hb=>(List.mem_append.1 hb).elim (h b) (h' b)
theorem By.fix(v:Int)(n:Nat):By (bP v n):=zY v n
theorem By.sld{l:List Int}(h:By l):By (fO l):=h.append (.fix _ _)
theorem By.take{l:List Int}(h:By l)(n:Nat):By (l.take n):=fun b hb=>h b (List.mem_of_mem_take hb)
theorem By.drop{l:List Int}(h:By l)(n:Nat):By (l.drop n):=fun b hb=>h b (List.mem_of_mem_drop hb)
def dX(N K C:Int):Prop:=N<=4294967296/\1<=K/\K<=1048576/\0<=C/\C<=2147483648
instance (N K C:Int):Decidable (dX N K C):=inferInstanceAs (Decidable (_/\_/\_/\_/\_))
def lV(N K C:Int):List Int:=([84,71,88,49]++bP N 8)++bP K 4++bP C 4
def gM(N K C:Int):List Int:=fO (lV N K C)
theorem sG(N K C:Int):(lV N K C).length=20:=by unfold lV;simp only[List.length_append,aM];rfl
theorem fE(N K C:Int):(gM N K C).length=24:=by unfold gM;rw[iD,sG]
theorem wM(N K C:Int):By (lV N K C):=by
 unfold lV;refine((By.append ?_ (.fix _ _)).append (.fix _ _)).append (.fix _ _);intro b hb;simp at hb;omega
theorem wO(N K C:Int):By (gM N K C):=(wM N K C).sld
theorem gL(N K C:Int):gM N K C=[84,71,88,49]++(bP N 8++(bP K 4++(bP C 4++bP (nC (lV N K C)) 4))):=by
 unfold gM fO;rw[show lV N K C=([84,71,88,49]++bP N 8)++bP K 4++bP C 4 from rfl];simp only[List.append_assoc]
theorem pS{l m r:List Int}{a b:Nat}(hl:l.length=a)(hm:m.length=b):((l++(m++r)).drop a).take b=m:=by
 rw[List.drop_left' hl,List.take_left' hm]
theorem wN(N K C:Int)(r:List Int):(gM N K C++r).take 4=[84,71,88,49]:=by
 rw[gL,List.append_assoc];rfl
theorem CX(N K C:Int)(r:List Int):((gM N K C++r).drop 4).take 8=bP N 8:=by
 rw[gL,List.append_assoc,List.append_assoc];exact pS rfl (aM _ _)
theorem CY(N K C:Int)(r:List Int):((gM N K C++r).drop 12).take 4=bP K 4:=by
 rw[gL];simp only[List.append_assoc];rw[← List.append_assoc [84,71,88,49]];exact pS (by rw[List.length_append,aM];rfl) (aM _ _)
theorem CZ(N K C:Int)(r:List Int):((gM N K C++r).drop 16).take 4=bP C 4:=by
 rw[gL];simp only[List.append_assoc];rw[← List.append_assoc [84,71,88,49],← List.append_assoc ([84,71,88,49]++bP N 8)];exact pS (by simp only[List.length_append,aM];rfl) (aM _ _)
structure dI where
 (len first sum:Int)
def fU(r:dI):List Int:=bP r.len 4++(bP r.first 8++bP r.sum 4)
def jN(l:List dI):List Int:=l.flatMap fU++[88,71,84,49]
def kJ(l:List dI):List Int:=fO (jN l)
theorem pC(r:dI):(fU r).length=16:=by unfold fU;simp only[List.length_append,aM]
theorem iL(l:List dI):(l.flatMap fU).length=16*l.length:=by
 induction l with
 | nil=>rfl
 | cons r l ih=>rw[List.flatMap_cons,List.length_append,ih,pC,List.length_cons];omega
theorem kB(l:List dI):(jN l).length=16*l.length+4:=by unfold jN;rw[List.length_append,iL];rfl
theorem iF(l:List dI):(kJ l).length=16*l.length+8:=by unfold kJ;rw[iD,kB]
theorem Ax(r:dI):By (fU r):=(By.fix _ _).append ((By.fix _ _).append (.fix _ _))
theorem wS(l:List dI):By (l.flatMap fU):=fun b hb=>by
 obtain⟨r,_,hr⟩:=List.mem_flatMap.1 hb;exact Ax r b hr
theorem vO(l:List dI):By (jN l):=(wS l).append fun b hb=>by simp at hb;omega
theorem vP(l:List dI):By (kJ l):=(vO l).sld
def jO(last:Int):List dI->Bool
 | []=>true
 | r ::l=>decide (1<=r.len/\r.len<=4294967295/\last<=r.first/\r.first<=4611686018427387903) && jO r.first l
def kO(l:List dI):Bool:=jO 0 l
def dF(l:List dI):Int:=(l.map dI.len).sum
theorem qS(l m:List dI):dF (l++m)=dF l+dF m:=by unfold dF;rw[List.map_append,List.sum_append]
structure C9(r:dI):Prop where
 len:1<=r.len/\r.len<=4294967295
 first:0<=r.first/\r.first<=4611686018427387903
 sum:0<=r.sum/\r.sum<=4294967295
theorem kP:∀ {l:List dI} {last:Int},jO last l=true->∀ r∈l,(1<=r.len/\r.len<=4294967295)/\last<=r.first/\r.first<=4611686018427387903
 | [],last,_,r,hr=>by cases hr
 | x ::l,last,h,r,hr=>by
  unfold jO at h;rw[Bool.and_eq_true,decide_eq_true_iff]at h;rcases List.mem_cons.1 hr with rfl | hr
  ·exact⟨⟨h.1.1,h.1.2.1⟩,h.1.2.2.1,h.1.2.2.2⟩
  ·have:=kP h.2 r hr;exact⟨this.1,by omega,this.2.2⟩
theorem iY:∀ {l:List dI},(∀ r∈l,1<=r.len)->(l.length:Int)<=dF l
 | [],_=>by simp[dF]
 | x ::l,h=>by
  have ih:=iY (l:=l) fun r hr=>h r (by simp[hr]);have hx:=h x (by simp);have:dF (x ::l)=x.len+dF l:=by unfold dF;simp
  rw[this,List.length_cons];omega
theorem Bh{r:dI}(h:C9 r)(s:List Int):eP ((fU r++s).take 4)=r.len/\eP (((fU r++s).drop 4).take 8)=r.first/\eP (((fU r++s).drop 12).take 4)=r.sum:=by
 obtain⟨h1,h2,h3⟩:=h;refine⟨?_,?_,?_⟩
 ·unfold fU;rw[List.append_assoc,List.take_left' (aM _ _),fV 4 (by omega) (by omega)]
 ·unfold fU;rw[List.append_assoc,List.append_assoc,pS (aM _ _) (aM _ _),fV 8 (by omega) (by omega)]
 ·unfold fU;rw[← List.append_assoc (bP r.len 4),List.append_assoc (bP r.len 4++bP r.first 8),pS (by simp only[List.length_append,aM]) (aM _ _),fV 4 (by omega) (by omega)]
end Go.V
/-! Files of histories, as bytes. Lists alone. -/
namespace Go.Proofs.YtdlomlmijdifbaaGreatDoor
open Go Go.V Go.RowKit
section
variable {N : Int} {l : List dO} {k i m : Nat}
end
end Go.Proofs.YtdlomlmijdifbaaGreatDoor
/-! crc: the walks. -/
namespace Go.Proofs.YtdlomlmijdifbaaGreatDoor
open Go Go.V Go.RowKit
theorem Dg{v:Int}:IntKind.wrap .u8 v=v % 256:=by
 have:=dP (k:=.u8) (z:=v % 256) (by simp only[aI];omega);simp only[IntKind.wrap,IntKind.bits,IntKind.signed]at *;simp at *
theorem qZ{w:World}{s b:Int}(hb:0<=b/\b<=255):Calls P 166 #[.int .u32 s,.int .u8 b] w fun ev w'=>ev=.returned (.int .u32 (mA s b))/\w'=w:=by
 apply vc166;dsimp only[VC166,Br]
 try simp only[aI]
 refine⟨by omega,fun m s' i w'=>∃ p:Nat,i=(p:Int)/\p<=8/\m=8-p/\s'=uN p (kD .xor .u32 s b)/\w'=w,⟨_,0,rfl,by omega,rfl,rfl,rfl⟩,?_⟩;rintro m s' i w' ⟨p,rfl,hp,rfl,rfl,rfl⟩;have hr:=mB p (fZ s b);have hn:=sQ p (kD .xor .u32 s b);unfold xG at hn;rw[xP hr];refine⟨fun DL=>⟨fun h1=>⟨by omega,by omega,8-(p+1),by omega,p+1,by omega,by omega,rfl,?_,rfl⟩,fun h1=>⟨by omega,by omega,8-(p+1),by omega,p+1,by omega,by omega,rfl,?_,rfl⟩⟩,fun DR=>?_⟩
 ·rw[hn,if_pos h1];rfl
 ·rw[hn,if_neg h1];rfl
 ·have:p=8:=by omega
  subst this;exact⟨rfl,rfl⟩
theorem uM{w:World}{A B:OA}{n c d:Nat}{l:List Int}(hp:bC w B [.slice A n c])(hr:bC w A (bY l))(hn:n=l.length)(hb:By l)(hl:l.length<=2^40):
    Calls P 144 #[.slice B 1 d] w fun ev w'=>ev=.returned (.int .u32 (nC l))/\w'=w:=by
  apply vc144;dsimp only[VC144,Br,Rd,Rs,Ix,cI]
  try simp only[aI]
  refine⟨fun m s i w'=>(i=0/\m=1/\s=4294967295/\w'=w)∨(i=1/\m=0/\s=jW 4294967295 l/\w'=w),⟨_,.inl ⟨rfl,rfl,rfl,rfl⟩⟩,?_⟩;rintro m s i w' (⟨rfl,rfl,rfl,rfl⟩ | ⟨rfl,rfl,rfl,rfl⟩)
  · refine⟨fun _=>?_,fun h=>absurd (show(0:Int)<((1:Nat):Int) by omega) h⟩;obtain⟨b,eB,fB⟩:=hp 0 (.slice A n c) rfl;refine⟨b,eB,by omega,by omega,A,n,c,fB,fun m s i w''=>∃ p:Nat,i=(p:Int)/\p<=l.length/\m=l.length-p/\s=jW 4294967295 (l.take p)/\w''=w',⟨_,0,rfl,by omega,rfl,rfl,rfl⟩,?_⟩;rintro m s i w'' ⟨p,rfl,E7,rfl,rfl,rfl⟩;have tp:(p:Int).toNat=p:=by omega
    rw[tp];refine⟨fun DL=>?_,fun DR=>?_⟩
    · have lp:p<l.length:=by omega
      obtain⟨a,eA,fA⟩:=hr p (.int .u8 l[p]) (by rw[List.getElem?_map,List.getElem?_eq_getElem lp];rfl);refine⟨a,eA,by omega,by omega,l[p],fA,(qZ (hb _ (List.getElem_mem lp))).mono fun ev w3 hh=>?_⟩;obtain⟨rfl,rfl⟩:=hh;refine⟨_,rfl,by omega,l.length-(p+1),by omega,p+1,by omega,by omega,rfl,?_,rfl⟩;rw[List.take_succ_eq_append_getElem lp,mC];rfl
    · have Fv:p=l.length:=by omega
      subst Fv;rw[List.take_length];exact⟨by omega,0,by omega,.inr ⟨rfl,rfl,rfl,rfl⟩⟩
  · refine⟨fun h=>absurd h (by omega),fun _=>?_⟩;exact⟨rfl,rfl⟩
theorem yF{w:World}{A:OA}{n c:Nat}{l:List Int}(hr:bC w A (bY l))(hn:n=l.length)(hb:By l)(hl:l.length<=2^30):
    Calls P 133 #[.slice A n c] w fun ev w'=>∃(A':OA)(n' c':Nat),ev=.returned (.slice A' n' c')/\aD w' w.heap.size 5 1 A' n' c' (bY (fO l))/\w.grownBy w' none:=by
  apply vc133;dsimp only[VC133,Br,Ap,cI,cS,nb]
  try simp only[aI]
  refine(iP hr hn (by omega)).mono fun ev w1 hh=>?_;obtain⟨A1,n1,c1,rfl,o1,g1⟩:=hh;have g2:=World.grownBy_alloc w1 (.cells #[.slice A n c] 22) none;have rP:bC (w1.alloc (.cells #[.slice A n c] 22)) (some ⟨w1.heap.size,0,none⟩) [.slice A n c]:=lO w1 #[.slice A n c] 22;refine⟨_,_,_,rfl,(uM rP ((hr.kept_none g1).kept_none g2) hn hb (by omega)).mono fun ev w2 hh=>?_⟩;obtain⟨rfl,rfl⟩:=hh;have Hu:=xF l;have EN:=aB g1 g2;refine⟨_,rfl,fun m B k d s i W=>∃ p:Nat,i=(p:Int)/\p<=4/\m=4-p/\aD W w.heap.size 5 1 B k d (bY (l++bP (nC l) p))/\s=nC l / 256^p/\w.grownBy W none,⟨_,0,rfl,by omega,rfl,by simpa[bP]using o1.kp (S:=fun _=>False) (Kp.of_none g2) (fun _ _ e=>e),by simp,EN⟩,?_⟩;rintro m B k d s i W ⟨p,rfl,hp,rfl,oW,rfl,gW⟩;refine⟨fun DL=>?_,fun DR=>?_⟩
  · have DO:k=l.length+p:=by have:=oW.cases.1;simp[aM]at this;omega
    obtain⟨A3,n3,c3,w3,r3,o3,g3,_⟩:=nV (x:=IntKind.wrap .u8 (nC l / 256^p)) oW (by omega) gW.size;have ob:=fun q hq=>(World.ownsRow.lt oW q hq).1;refine⟨A3,n3,c3,w3,r3,by omega,by omega,4-(p+1),by omega,p+1,by omega,by omega,rfl,?_,?_,aP gW g3 fun q hq=>ob q hq⟩
    · rw[sH,← List.append_assoc,← Dg];exact o3
    · rw[show(2:Int)^8=256 by decide,Int.ediv_ediv_of_nonneg (Int.le_of_lt (pI p)),← Int.pow_succ]
  · have:p=4:=by omega
    subst this;exact⟨_,_,_,rfl,oW,gW⟩
theorem qM{w:World}{A B:OA}{n c m d:Nat}{a b:List Int}(hA:bC w A (bY a))(hn:n=a.length)(hB:bC w B (bY b))(hm:m=b.length)(hl:a.length<=2^40):
    Calls P 132 #[.slice A n c,.slice B m d] w fun ev w'=>ev=.returned (.bool (decide (a=b)))/\w.grownBy w' none:=by
  apply vc132;dsimp only[VC132,rb,Br,Rd,Ix]
  try simp only[aI]
  refine⟨fun DN=>⟨?_,aF _ _⟩,fun LU=>?_⟩
  · rw[decide_eq_false (fun h=>DN (by rw[hn,hm,h]))]
  have Lb:a.length=b.length:=by omega
  refine⟨fun q i W=>∃ p:Nat,i=(p:Int)/\p<=a.length/\q=a.length-p/\a.take p=b.take p/\w.grownBy W none,⟨_,0,rfl,by omega,rfl,rfl,aF _ _⟩,?_⟩;rintro q i W ⟨p,rfl,hp,rfl,ht,gW⟩;have tp:(p:Int).toNat=p:=by omega
  rw[tp];refine⟨fun DL=>?_,fun DR=>?_⟩
  · have gd:=aG gW;have la:p<a.length:=by omega
    have lb:p<b.length:=by omega
    obtain⟨x,e1,e2⟩:=(hA.kept_none gd) p (.int .u8 a[p]) (by rw[List.getElem?_map,List.getElem?_eq_getElem la];rfl);obtain⟨y,f1,f2⟩:=(hB.kept_none gd) p (.int .u8 b[p]) (by rw[List.getElem?_map,List.getElem?_eq_getElem lb];rfl);refine⟨x,e1,by omega,by omega,_,e2,y,f1,by omega,by omega,_,f2,fun DN=>⟨?_,gd⟩,fun he=>⟨by omega,a.length-(p+1),by omega,p+1,by omega,by omega,rfl,?_,gd⟩⟩
    · rw[decide_eq_false (fun h=>DN (by subst h;rfl))]
    · rw[List.take_succ_eq_append_getElem la,List.take_succ_eq_append_getElem lb,ht,Decidable.not_not.1 he]
  · have:p=a.length:=by omega
    subst this;rw[List.take_length,Lb,List.take_length]at ht;rw[decide_eq_true ht];exact⟨rfl,gW⟩
theorem pQ{w:World}{A:OA}{n c:Nat}{x:List Int}(hr:bC w A (bY x))(hn:n=x.length)(hc:n<=c)(hb:By x)(hl:x.length<=2^30)(hs:Cy x):
    Calls P 104 #[.slice A n c] w fun ev w'=>∃(A':OA)(n' c':Nat),ev=.returned (.tuple #[.slice A' n' c',.bool true])/\aD w' w.heap.size 5 1 A' n' c' (bY (x.take (x.length-4)))/\w.grownBy w' none:=by
  apply vc104;dsimp only[VC104,rt,Br,cB,cS]
  try simp only[aI]
  have h4:=hs.1;have tn:((n:Int)-4).toNat=x.length-4:=by omega
  rw[tn];have Jn:∀ W,w.grownBy W none->bC W A (bY (x.take (x.length-4))):=fun W hW j u hj=>by
    rw[List.getElem?_map,List.getElem?_take]at hj;split at hj
    · exact(hr.kept_none hW) j u (by rw[List.getElem?_map];exact hj)
    · simp at hj
  have Jw:(x.take (x.length-4)).length=x.length-4:=by rw[List.length_take];omega
  refine⟨by omega,fun h=>absurd h (by omega),fun _=>⟨⟨by omega,by omega⟩,(yF (Jn w (aF _ _)) Jw.symm (hb.take _) (by omega)).mono fun ev w1 hh=>?_⟩⟩;obtain⟨A1,n1,c1,rfl,o1,g1⟩:=hh;have Fa:n1=(fO (x.take (x.length-4))).length:=by have:=o1.cases.1;simp at this;omega
  refine⟨_,_,_,rfl,(qM o1.row Fa (hr.kept_none g1) hn (by rw[iD];omega)).mono fun ev w2 hh=>?_⟩;obtain⟨rfl,g2⟩:=hh;refine⟨_,rfl,fun h=>absurd hs.2.symm (of_decide_eq_false h),fun _=>⟨⟨by omega,by omega⟩,(iP (Jn w2 (aB g1 g2)) Jw.symm (by omega)).mono fun ev w3 hh=>?_⟩⟩;obtain⟨A3,n3,c3,rfl,o3,g3⟩:=hh;have s1:=g1.size;have s2:=g2.size;refine⟨_,_,_,rfl,_,_,_,rfl,o3.mono (by omega),aB g1 (aB g2 g3)⟩
end Go.Proofs.YtdlomlmijdifbaaGreatDoor

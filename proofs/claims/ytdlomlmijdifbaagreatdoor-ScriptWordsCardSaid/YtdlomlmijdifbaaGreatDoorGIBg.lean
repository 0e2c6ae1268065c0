/- Own texts, packed: I3, I4, I5, I6, I7, I8, I9, I10. -/
import Derived.Test.YtdlomlmijdifbaaGreatDoorGIAg
import Derived.Test.YtdlomlmijdifbaaGreatDoorGIXg
import Derived.Test.YtdlomlmijdifbaaGreatDoorGIg
import Derived.Test.YtdlomlmijdifbaaGreatDoorGCg
import Derived.Maps.Keyed
import Derived.Laws.Concat
set_option linter.unusedVariables false
set_option linter.unusedSimpArgs false
set_option maxHeartbeats 4000000
set_option maxRecDepth 100000
namespace Go.Proofs.YtdlomlmijdifbaaGreatDoor
open Go Go.V Go.RowKit
theorem kF{w:World}{l p:List Int}(hl:bB l)(hp:bB p):Calls P 122 #[.string (aO l),.string (aO p)] w fun ev w'=>ev=.returned (.bool (p.isPrefixOf l))/\w'=w:=by
 apply vc122;dsimp only[VC122,cB];apply vc152;dsimp only[VC152,rb,Br,Eg];rw[aZ,aZ];have tp:((p.length:Nat):Int).toNat=p.length:=by omega
 refine⟨fun h=>⟨⟨by omega,by omega⟩,_,fun w=>hO _ _ _ _ w,_,rfl,?_,rfl⟩,fun h=>⟨false,rfl,?_,rfl⟩⟩
 ·rw[tp,kW,List.drop_zero];congr 2;rw[Bool.eq_iff_iff,decide_eq_true_iff,List.isPrefixOf_iff_prefix,List.prefix_iff_eq_take];constructor
  ·intro h;exact(oK (fun x hx=>hl x (List.mem_of_mem_take hx)) hp h).symm
  ·intro h;rw[← h]
 ·congr 2;rw[eq_comm,Bool.eq_false_iff];intro h';rw[List.isPrefixOf_iff_prefix]at h';have:=h'.length_le;omega
def BI(s:Sn):Prop:=(0<=s.p/\s.p+s.l.length<=2^40)/\(0<=s.q/\s.q+s.l.length<=2^40)/\bB s.l
theorem BI.skN:∀ {n:Nat} {s:Sn},BI s->BI (skN n s)
 | 0,s,h=>h
 | n+1,⟨[],p,q,e⟩,h=>h
 | n+1,⟨x ::r,p,q,e⟩,h=>by
  obtain⟨h1,h2,h3⟩:=h;simp only[List.length_cons]at h1 h2;refine BI.skN (n:=n) (s:=⟨r,if x=10 then p+1 else p,if x=10 then 1 else q+1,e⟩) ⟨?_,?_,fun y hy=>h3 y (by simp[hy])⟩
  ·simp only;split <;>omega
  ·simp only;split <;>omega
theorem BI.fail{e:Int}{s:Sn}(h:BI s):BI (cM e s):=by
 unfold cM;split <;>exact h
theorem zK{i:Nat}{s:Sn}(h:i<s.l.length):skN (i+1) s=⟨s.l.drop (i+1),if s.l[i]=10 then(skN i s).p+1 else(skN i s).p,if s.l[i]=10 then 1 else(skN i s).q+1,s.e⟩:=by
 have h1:=eH i s;have h2:=fT i s;rw[← eE i 1 s];generalize skN i s=z at h1 h2 ⊢;obtain⟨l,p,q,e⟩:=z;simp only at h1 h2;rw[List.drop_eq_getElem_cons h]at h1;subst h1;subst h2;rfl
def Sq(w:World)(b:Nat)(s:Sn):Prop:=w.heap[b]?=some (.cells #[.string (aO s.l),.int .i64 s.p,.int .i64 s.q,.int .i64 s.e] 142 (0,0))/\BI s
theorem Sq.kp{w w':World}{S:Nat->Prop}{b:Nat}{s:Sn}(h:Sq w b s)(hk:Kp w w' S)(hS:¬ S b):Sq w' b s :=
 ⟨by rw[hk.block b (Array.getElem?_eq_some_iff.1 h.1).1 hS];exact h.1,h.2⟩
theorem Sq.kept{w w':World}{b:Nat}{s:Sn}(h:Sq w b s)(hg:w.grownBy w' none):Sq w' b s:=h.kp (S:=fun _=>False) (Kp.of_none hg) (fun h=>h)
theorem Sq.lt{w:World}{b:Nat}{s:Sn}(h:Sq w b s):b<w.heap.size:=(Array.getElem?_eq_some_iff.1 h.1).1
theorem Sq.err{w:World}{b:Nat}{s:Sn}(h:Sq w b s):w.cell? ⟨b,3,none⟩=some (.int .i64 s.e):=aA h.1 3
theorem Sq.str{w:World}{b:Nat}{s:Sn}(h:Sq w b s):w.cell? ⟨b,0,none⟩=some (.string (aO s.l)):=aA h.1 0
abbrev pW(b:Nat):Value:=.pointer (some ⟨b,0,none⟩)
theorem sA{w:World}{l:List Int}(hl:l.length<=2^30)(hb:bB l):Calls P 30 #[.string (aO l)] w fun ev w'=>ev=.returned (pW w.heap.size)/\Sq w' w.heap.size ⟨l,1,1,0⟩/\w.grownBy w' none:=by
 apply vc30;dsimp only[VC30,nb,iq];exact⟨rfl,⟨heap_alloc_new w _,⟨by simp only;omega,by simp only;omega⟩,⟨by simp only;omega,by simp only;omega⟩,hb⟩,World.grownBy_alloc w _ none⟩
theorem sB{w:World}{b:Nat}{s:Sn}(h:Sq w b s):Calls P 36 #[pW b] w fun ev w'=>ev=.returned (.int .i64 s.e)/\w'=w:=by
 apply vc36;dsimp only[VC36,Rd,iq];refine⟨_,rfl,s.e,by rw[aN];exact h.err,rfl,rfl⟩
theorem cX{w:World}{b:Nat}{s:Sn}{f:Int}(h:Sq w b s):Calls P 91 #[pW b,.int .i64 f] w fun ev w'=>ev=.returned (.tuple #[])/\Sq w' b (cM f s)/\Kp w w' (fun k=>k=b):=by
 apply vc91;dsimp only[VC91,rt,Wt,Br,Rd,iq];obtain⟨h1,h2⟩:=h;refine⟨_,rfl,s.e,by rw[aN];exact aA h1 3,fun h=>⟨_,rfl,?_⟩,fun h=>⟨rfl,?_,Kp.refl w _⟩⟩
 ·rw[aN];have:=aG h1 3 (.int .i64 f);refine⟨⟨_,aA h1 3⟩,aD h1 3,rfl,⟨?_,h2.fail⟩,eZ (Kp.refl w _) rfl⟩;unfold cM;rw[if_pos h];simpa using this
 ·unfold cM;rw[if_neg h];exact⟨h1,h2⟩
theorem jU{w:World}{b n:Nat}{s:Sn}(h:Sq w b s)(hn:n<=s.l.length):Calls P 92 #[pW b,.int .i64 (n:Int)] w fun ev w'=>ev=.returned (.tuple #[])/\Sq w' b (skN n s)/\Kp w w' (fun k=>k=b):=by
 apply vc92;dsimp only[VC92,rt,Wt,Br,Rd,Ws,iq]
 try simp only[aH]
 obtain⟨h1,h2⟩:=h;refine⟨fun m x w'=>∃ i:Nat,x=(i:Int)/\i<=n/\m=n-i/\Kp w w' (fun k=>k=b)/\w'.heap[b]?=some (.cells #[.string (aO s.l),.int .i64 (skN i s).p,.int .i64 (skN i s).q,.int .i64 s.e] 142 (0,0)),⟨_,0,rfl,by omega,rfl,Kp.refl w _,h1⟩,?_⟩;rintro m x w1 ⟨i,rfl,hi,rfl,k1,h1⟩;have ti:(i:Int).toNat=i:=by omega
 have tn:(n:Int).toNat=n:=by omega
 rw[ti,tn];have Du:=aZ s.l;have Gm:=(h2.skN (n:=i));have IC:=h2.1;have Ch:(skN i s).l.length=s.l.length-i:=by rw[eH,List.length_drop]
 obtain⟨hp,hq,_⟩:=Gm;rw[Ch]at hp hq;refine⟨fun Cc=>⟨_,rfl,_,aA h1 0,⟨by omega,by rw[Du];omega⟩,fun C8=>?_,fun C8=>?_⟩,fun Ck=>?_⟩
 ·rw[fS h2.2.2 (by omega)]at C8;have e1:=zK (i:=i) (s:=s) (by omega);rw[if_pos C8,if_pos C8]at e1;have s1:=aG h1 1 (.int .i64 ((skN i s).p+1));have s2:=aG s1 2 (.int .i64 1);refine⟨_,rfl,?_⟩;rw[aN];refine⟨(skN i s).p,aA h1 1,⟨by omega,by omega⟩,_,rfl,?_⟩;rw[aN,dA];refine⟨⟨_,aA h1 1⟩,aD h1 1,?_⟩;refine⟨⟨_,aA s1 2⟩,aD s1 2,⟨by omega,by omega⟩,_,?_,i+1,by omega,by omega,rfl,eZ (eZ k1 rfl) rfl,by rw[e1];simpa using s2⟩;omega
 ·rw[fS h2.2.2 (by omega)]at C8;have e1:=zK (i:=i) (s:=s) (by omega);rw[if_neg C8,if_neg C8]at e1;have s2:=aG h1 2 (.int .i64 ((skN i s).q+1));refine⟨_,rfl,(skN i s).q,by rw[aN,dA];exact aA h1 2,⟨by omega,by omega⟩,_,rfl,?_⟩;rw[aN,dA];refine⟨⟨_,aA h1 2⟩,aD h1 2,⟨by omega,by omega⟩,_,?_,i+1,by omega,by omega,rfl,eZ k1 rfl,by rw[e1];simpa using s2⟩;omega
 ·have:i=n:=by omega
  subst this;have s0:=aG h1 0 (.string (aO (s.l.drop i)));refine⟨_,rfl,_,aA h1 0,⟨by omega,by rw[Du];omega⟩,_,rfl,⟨_,aA h1 0⟩,aD h1 0,trivial,?_⟩;rw[kW,Du,List.take_length];refine⟨⟨?_,h2.skN⟩,eZ k1 rfl⟩;rw[eH,fT];simpa using s0
theorem nW{w:World}{x:Int}:Calls P 90 #[.int .u8 x] w fun ev w'=>ev=.returned (.bool (bX x))/\w'=w:=by
 apply vc90;dsimp only[VC90,rb,Br];unfold bX;refine⟨fun h=>⟨?_,rfl⟩,fun h=>⟨?_,rfl⟩⟩
 ·congr 2;rw[decide_eq_decide];omega
 ·congr 2;rw[eq_comm,decide_eq_false_iff_not];omega
theorem pV{w:World}{b:Nat}{p:List Int}{s:Sn}(h:Sq w b s)(hp:bB p):Calls P 89 #[pW b,.string (aO p)] w fun ev w'=>ev=.returned (.bool (bE p s).1)/\Sq w' b (bE p s).2/\Kp w w' (fun k=>k=b):=by
 apply vc89;dsimp only[VC89,rb,Br,Bb,Rd,cB,cU,iq];unfold bE;refine⟨_,rfl,s.e,by rw[aN];exact h.err,fun he=>?_,fun he=>⟨_,rfl,_,h.str,?_⟩⟩
 ·rw[if_pos he];exact⟨rfl,h,Kp.refl w _⟩
 rw[if_neg he];refine(kF h.2.2.2 hp).mono fun ev w1 hh=>?_;obtain⟨rfl,rfl⟩:=hh;refine⟨_,rfl,fun hi=>?_,fun hi=>⟨_,rfl,_,h.str,?_⟩⟩
 ·have hi:p.isPrefixOf s.l=true:=hi;rw[if_pos hi,aZ];refine(jU h (List.isPrefixOf_iff_prefix.1 hi).length_le).mono fun ev w2 hh=>?_;obtain⟨rfl,h2,k2⟩:=hh;exact⟨rfl,rfl,h2,k2⟩
 ·have hi:p.isPrefixOf s.l=false:=hi;rw[if_neg (by rw[hi];decide)];refine(kF hp h.2.2.2).mono fun ev w1 hh=>?_;obtain⟨rfl,rfl⟩:=hh;refine⟨_,rfl,fun hj=>?_,fun hj=>?_⟩
  ·have hj:s.l.isPrefixOf p=true:=hj;rw[hj];refine(cX h).mono fun ev w2 hh=>?_;obtain⟨rfl,h2,k2⟩:=hh;exact⟨rfl,rfl,h2,k2⟩
  ·have hj:s.l.isPrefixOf p=false:=hj;rw[hj];refine(cX h).mono fun ev w2 hh=>?_;obtain⟨rfl,h2,k2⟩:=hh;exact⟨rfl,rfl,h2,k2⟩
theorem BG{w:World}{x:Int}(hx:0<=x/\x<=255):Sem.run P (Go.convert 22 9 (.slice (some ⟨w.heap.size,0,none⟩) 1 1)) (w.alloc (.cells #[.int .u8 x] 5))=.ok (.string (aO [x])) (w.alloc (.cells #[.int .u8 x] 5)):=by
 refine fJ (l:=[x]) (fun j u hj=>?_) rfl
 match j,hj with
 | 0,hj=>simp at hj;subst hj;exact⟨_,rfl,aA (heap_alloc_new w _) 0⟩
theorem gE{w:World}{b:Nat}{s:Sn}{x:Int}(h:Sq w b s)(hx:0<=x/\x<=255):Calls P 63 #[pW b,.int .u8 x] w fun ev w'=>ev=.returned (.bool (bE [x] s).1)/\Sq w' b (bE [x] s).2/\Kp w w' (fun k=>k=b):=by
 apply vc63;dsimp only[VC63,cB,nb];have g0:=World.grownBy_alloc w (.cells #[.int .u8 x] 5) none;refine⟨_,BG hx,(pV (p:=[x]) (h.kept g0) (fun y hy=>by simp at hy;subst hy;exact hx)).mono fun ev w1 hh=>?_⟩;obtain⟨rfl,h1,k1⟩:=hh;exact⟨_,rfl,rfl,h1,(Kp.of_none g0).then k1 (fun _ _ e=>e)⟩
theorem pR{l:List Int}:decide (aO l=⟨#[]⟩)=decide (l=[]):=by
 rw[decide_eq_decide];constructor
 ·intro h;have:=congrArg ByteArray.size h;rw[aZ]at this;exact List.length_eq_zero_iff.1 this
 ·rintro rfl;rfl
def jA(s:Sn):Int×Bool:=if s.e≠0 then(0,false) else(s.l.headD 0,decide (s.l≠[]))
theorem eP{w:World}{b:Nat}{s:Sn}(h:Sq w b s):Calls P 31 #[pW b] w fun ev w'=>ev=.returned (.tuple #[.int .u8 (jA s).1,.bool (jA s).2])/\w'=w:=by
 apply vc31;dsimp only[VC31,rt,Br,Bb,Rd,Eg];unfold jA;refine⟨_,rfl,s.e,by rw[aN];exact h.err,fun he=>?_,fun he=>⟨_,rfl,_,h.str,_,fun w=>hO _ _ _ _ w,?_⟩⟩
 ·rw[if_pos he];exact⟨rfl,rfl⟩
 rw[if_neg he,pR];have hb:=h.2.2.2;have DV:=h.str;cases hl:s.l with
 | nil=>exact⟨fun _=>⟨rfl,rfl⟩,fun h=>by simp at h⟩
 | cons x r =>
  rw[hl]at DV hb;refine⟨fun h=>by simp at h,fun _=>⟨_,rfl,_,DV,⟨by omega,by rw[aZ];simp⟩,?_,rfl⟩⟩;rw[fS hb (i:=0) (by simp)];simp
theorem iY{w:World}{b:Nat}{s:Sn}(h:Sq w b s):Calls P 32 #[pW b] w fun ev w'=>ev=.returned (.agg #[.int .i64 s.p,.int .i64 s.q])/\w.grownBy w' none:=by
 apply vc32;dsimp only[VC32,Wt,Rd,Ws,nb,iq];obtain⟨h1,h2⟩:=h;have g0:=World.grownBy_alloc w (.cells #[.int .i64 0,.int .i64 0] 37) none;have b0:=heap_alloc_new w (.cells #[.int .i64 0,.int .i64 0] 37);have s1:=aG b0 0 (.int .i64 s.p);have s2:=aG s1 1 (.int .i64 s.q);have GQ:=aC h1 g0;have k2:=eZ (S:=fun k=>w.heap.size<=k) (j:=1) (u:=.int .i64 s.q) (eZ (j:=0) (u:=.int .i64 s.p) (Kp.of_none g0) (Nat.le_refl _)) (Nat.le_refl _);refine⟨_,rfl,s.p,by rw[aN];exact aA GQ 1,s.q,by rw[aN,dA];exact aA GQ 2,⟨_,aA b0 0⟩,aD b0 0,⟨_,aA s1 1⟩,aD s1 1,s.p,aA s2 0,s.q,aA s2 1,rfl,?_⟩;exact k2.grown (fun k hk h=>by omega)
theorem lX(f:Int->Bool):∀ {l:List Int} {i:Nat},i<=(l.takeWhile f).length->(h:i<l.length)->f l[i]=decide (i<(l.takeWhile f).length)
 | x ::r,0,_,_=>by
  rw[List.takeWhile_cons];show f x=_;cases hx:f x <;>simp
 | x ::r,i+1,hi,h=>by
  rw[List.takeWhile_cons]at hi ⊢;cases hx:f x with
  | false=>rw[hx]at hi;simp at hi
  | true =>
   rw[hx]at hi;simp only[if_true,List.length_cons]at hi ⊢;have:=lX f (l:=r) (i:=i) (by omega) (by simpa using h);simp only[List.getElem_cons_succ];rw[this];simp
theorem jT(f:Int->Bool)(l:List Int):(l.takeWhile f).length<=l.length:=by
 have:=congrArg List.length (kX f l);rw[List.length_append]at this;omega
theorem zI{f:Int->Bool}{l:List Int}{i:Nat}(h:i<(l.takeWhile f).length):(l.takeWhile f)[i]=l[i]'(Nat.lt_of_lt_of_le h (jT f l)):=by
 have:=congrArg (fun z=>z[i]?) (kX f l);simp only[List.getElem?_append_left h]at this;rw[List.getElem?_eq_getElem h,List.getElem?_eq_getElem (Nat.lt_of_lt_of_le h (jT f l))]at this;exact(Option.some.inj this).symm
theorem yG{m v:Int}{d:List Int}{i:Nat}(h:i<d.length):nY m v (d.drop i)=if m<d[i]-48∨(m-(d[i]-48)) / 10<v then none else nY m (v*10+(d[i]-48)) (d.drop (i+1)):=by
 rw[List.drop_eq_getElem_cons h];rfl
theorem mL {w:World} {b:Nat} {s:Sn} {most:Int} (h:Sq w b s) (hm:0<=most/\most<=18446744073709551615):Calls P 65 #[pW b,.int .u64 most] w fun ev w'=>ev=.returned (.int .u64 (dQ most s).1)/\Sq w' b (dQ most s).2/\Kp w w' (fun k=>k=b):=by
  apply vc65;dsimp only[VC65,Br,Bb,Rd,Eg,cB,cU,iq]
  try simp only[aH]
  refine⟨_,rfl,s.e,by rw[aN];exact h.err,fun he=>?_,fun he=>?_⟩
  · unfold dQ;rw[if_pos he];exact⟨rfl,h,Kp.refl w _⟩
  obtain⟨D,hD⟩:∃ D,D=(s.l.takeWhile bX).length:=⟨_,rfl⟩;have H0:D<=s.l.length:=by rw[hD];exact jT _ _
  have hq:=h.2.2.2;have Gm:=h.2.1;have Eu:s.l.length<=2^40:=by have:=h.2.1;omega
  refine⟨fun m n w'=>w'=w/\∃ i:Nat,n=(i:Int)/\i<=D/\m=D-i,⟨_,rfl,0,rfl,by omega,rfl⟩,?_⟩;rintro m n w1 ⟨Cl,i,rfl,hi,rfl⟩;obtain rfl:w=w1:=Cl.symm;have ti:(i:Int).toNat=i:=by omega
  refine⟨fun x w'=>w'=w/\x=decide (i<D),⟨_,rfl,_,h.str,?_⟩,?_⟩
  · rw[aZ,ti];refine⟨fun Cc=>⟨_,rfl,_,h.str,⟨by omega,by rw[aZ];omega⟩,?_⟩,fun Cc=>⟨rfl,?_⟩⟩
    · refine nW.mono fun ev w2 hh=>?_;obtain⟨rfl,rfl⟩:=hh;refine⟨_,rfl,rfl,?_⟩;rw[fS hq (by omega),hD];exact lX bX (by omega) (by omega)
    · symm;rw[decide_eq_false_iff_not];omega
  rintro x w1 ⟨Cl,rfl⟩;obtain rfl:w=w1:=Cl.symm;refine⟨fun hx=>?_,fun hx=>?_⟩
  · have hx:i<D:=of_decide_eq_true hx;exact⟨⟨by omega,by omega⟩,D-(i+1),by omega,rfl,i+1,by omega,by omega,rfl⟩
  have hx:¬ i<D:=of_decide_eq_false hx;obtain rfl:i=D:=by omega
  -- what the switch makes of it
  obtain⟨sw,CL⟩:∃ sw,sw=(if s.l=[] then cM 20 s else if s.l.takeWhile bX=[]∨1<(s.l.takeWhile bX).length/\s.l.head?=some 48 then cM 21 s else s):=⟨_,rfl⟩;have IH:s.e=0:=Decidable.not_not.1 he;have C3:s.l.takeWhile bX=[]↔i=0:=by rw[hD,List.length_eq_zero_iff]
  refine⟨fun w'=>Sq w' b sw/\Kp w w' (fun k=>k=b),⟨_,rfl,_,h.str,_,fun w=>hO _ _ _ _ w,?_⟩,?_⟩
  · rw[pR];refine⟨fun hn=>?_,fun hn=>?_⟩
    · have hn:s.l=[]:=of_decide_eq_true hn;refine(cX h).mono fun ev w2 hh=>?_;obtain⟨rfl,h2,k2⟩:=hh;rw[CL,if_pos hn];exact⟨rfl,h2,k2⟩
    have hn:¬ s.l=[]:=of_decide_eq_false hn;rw[if_neg hn]at CL;have CM:=List.length_pos_iff.2 hn;refine⟨fun h0=>?_,fun h0=>⟨fun h1=>⟨_,rfl,_,h.str,⟨by omega,by rw[aZ];omega⟩,?_⟩,fun h1=>?_⟩⟩
    · refine(cX h).mono fun ev w2 hh=>?_;obtain⟨rfl,h2,k2⟩:=hh;rw[CL,if_pos (.inl (C3.2 (by omega)))];exact⟨rfl,h2,k2⟩
    · have Gp:s.l.head?=some s.l[0]:=by rw[List.head?_eq_getElem?,List.getElem?_eq_getElem CM]
      rw[fS hq CM];refine⟨fun FM=>?_,fun FM=>?_⟩
      · refine(cX h).mono fun ev w2 hh=>?_;obtain⟨rfl,h2,k2⟩:=hh;rw[CL,if_pos (.inr ⟨by omega,by rw[Gp,FM]⟩)];exact⟨rfl,h2,k2⟩
      · rw[CL,if_neg (by
          rintro(hz | ⟨_,hz⟩)
          · exact h0 (by have:=C3.1 hz;omega)
          · rw[Gp]at hz;exact FM (Option.some.inj hz))]
        exact⟨h,Kp.refl w _⟩
    · rw[CL,if_neg (by
        rintro(hz | ⟨hz,_⟩)
        · exact h0 (by have:=C3.1 hz;omega)
        · omega)]
      exact⟨h,Kp.refl w _⟩
  rintro w1 ⟨h1,k1⟩
  -- the digits, one by one
  refine⟨fun m v n w'=>∃(σ:Sn)(j:Nat),n=(j:Int)/\j<=i/\m=i-j/\Sq w' b σ/\Kp w w' (fun k=>k=b)/\((σ=s/\(0<=v/\v<=most)/\dQ most s=(match nY most v ((s.l.takeWhile bX).drop j)with | none=>(0,cM 22 s) | some v=>(v,skN i s)))∨(σ.e≠0/\dQ most s=(0,σ))),⟨_,sw,0,rfl,by omega,rfl,h1,k1,?_⟩,?_⟩
  · by_cases hn:s.l=[]
    · rw[if_pos hn]at CL;refine .inr ⟨by rw[CL];exact qP (by decide),?_⟩;unfold dQ;rw[if_neg he,if_pos hn,CL]
    rw[if_neg hn]at CL;by_cases hc:s.l.takeWhile bX=[]∨1<(s.l.takeWhile bX).length/\s.l.head?=some 48
    · rw[if_pos hc]at CL;refine .inr ⟨by rw[CL];exact qP (by decide),?_⟩;unfold dQ;rw[if_neg he,if_neg hn,if_pos hc,CL]
    · rw[if_neg hc]at CL;refine .inl ⟨CL,⟨by omega,by omega⟩,?_⟩;unfold dQ;rw[if_neg he,if_neg hn,if_neg hc,List.drop_zero,hD];rfl
  rintro m v n w2 ⟨σ,j,rfl,hj,rfl,h2,k2,hσ⟩;have tj:(j:Int).toNat=j:=by omega
  rw[tj];refine⟨fun x w'=>w'=w2/\x=decide (j<i/\σ.e=0),⟨fun Cc=>⟨_,rfl,σ.e,by rw[aN];exact h2.err,rfl,?_⟩,fun Cc=>⟨rfl,?_⟩⟩,?_⟩
  · rw[decide_eq_decide];exact⟨fun h=>⟨by omega,h⟩,fun h=>h.2⟩
  · symm;rw[decide_eq_false_iff_not];omega
  rintro x w3 ⟨CO,rfl⟩;obtain rfl:w2=w3:=CO.symm;refine⟨fun hx=>?_,fun hx=>?_⟩
  · obtain⟨Iu,G0⟩:=of_decide_eq_true hx;obtain⟨rfl,hv,Cq⟩:σ=s/\_:=hσ.resolve_right fun h=>h.1 G0;have Dg:j<σ.l.length:=by omega
    have Gl:j<(σ.l.takeWhile bX).length:=by omega
    have CT:bX σ.l[j]=true:=by rw[lX bX (by omega) Dg,decide_eq_true_iff];omega
    unfold bX at CT;simp only[decide_eq_true_eq]at CT;rw[yG Gl,zI Gl]at Cq;refine⟨_,rfl,_,h2.str,⟨by omega,by rw[aZ];omega⟩,?_⟩;rw[fS hq Dg];generalize σ.l[j]=y at CT Cq ⊢;refine⟨⟨by omega,by omega⟩,⟨by omega,by omega⟩,fun w'=>Sq w' b (if most<y-48∨(most-(y-48)) / 10<v then cM 22 σ else σ)/\Kp w w' (fun k=>k=b),⟨fun x w'=>w'=w2/\x=decide (most<y-48∨(most-(y-48)) / 10<v),⟨fun h1=>⟨rfl,?_⟩,fun h1=>⟨⟨by omega,by omega⟩,⟨by omega,by omega,by omega,by omega⟩,rfl,?_⟩⟩,?_⟩,?_⟩
    · symm;rw[decide_eq_true_iff];exact .inl (by omega)
    · rw[decide_eq_decide];omega
    · rintro x w3 ⟨CO,rfl⟩;obtain rfl:w2=w3:=CO.symm;refine⟨fun hx=>?_,fun hx=>?_⟩
      · rw[if_pos (of_decide_eq_true hx)];refine(cX h2).mono fun ev w4 hh=>?_;obtain⟨rfl,h4,k4⟩:=hh;exact⟨rfl,h4,k2.then k4 (fun _ _ e=>e)⟩
      · rw[if_neg (of_decide_eq_false hx)];exact⟨h2,k2⟩
    · rintro w4 ⟨h4,k4⟩;refine⟨⟨by omega,by omega⟩,i-(j+1),by omega,_,j+1,by omega,by omega,rfl,h4,k4,?_⟩;by_cases hc:most<y-48∨(most-(y-48)) / 10<v
      · rw[if_pos hc]at Cq ⊢;exact .inr ⟨qP (by decide),Cq⟩
      · rw[if_neg hc]at Cq ⊢;have e1:IntKind.wrap .u64 (v*10)=v*10:=cV (show aH .u64 (v*10) from⟨by omega,by omega⟩);have e2:IntKind.wrap .u64 (v*10+(y-48))=v*10+(y-48):=cV (show aH .u64 (v*10+(y-48)) from⟨by omega,by omega⟩);rw[e1,e2];exact .inl ⟨rfl,⟨by omega,by omega⟩,Cq⟩
  · have hx:=of_decide_eq_false hx;refine⟨_,rfl,σ.e,by rw[aN];exact h2.err,fun Cg=>?_,fun Cg=>?_⟩
    · rcases hσ with⟨rfl,_⟩ | ⟨_,Cq⟩
      · exact absurd Cg he
      · rw[Cq];exact⟨rfl,h2,k2⟩
    · obtain⟨rfl,hv,Cq⟩:σ=s/\_:=hσ.resolve_right fun h=>Cg h.1;obtain rfl:j=i:=by
        have:=Decidable.not_not.1 Cg;have:¬ j<i:=fun h=>hx ⟨h,this⟩;omega
      rw[List.drop_eq_nil_of_le (by omega)]at Cq;have Cq:dQ most σ=(v,skN j σ):=Cq;rw[Cq];refine(jU h2 H0).mono fun ev w4 hh=>?_;obtain⟨rfl,h4,k4⟩:=hh;exact⟨rfl,rfl,h4,k2.then k4 (fun _ _ e=>e)⟩
def Av(c:Cm):List Value:=[.int .i64 c.k,.int .i64 c.t,.int .u64 c.u,.int .u64 c.v]
abbrev gT(c:Cm):Value:=.agg #[.int .i64 c.k,.int .i64 c.t,.int .u64 c.u,.int .u64 c.v]
def eI(l:List Cm):List Value:=l.flatMap Av
theorem uC(l m:List Cm):eI (l++m)=eI l++eI m:=by simp[eI]
theorem uA(l:List Cm):(eI l).length=l.length*4:=by
 induction l with
 | nil=>rfl
 | cons e l ih=>simp[eI,Av]at ih ⊢;omega
theorem uB:∀ {l:List Cm} {i:Nat} (h:i<l.length),(eI l)[i*4]?=some (.int .i64 l[i].k)/\(eI l)[i*4+1]?=some (.int .i64 l[i].t)/\(eI l)[i*4+2]?=some (.int .u64 l[i].u)/\(eI l)[i*4+3]?=some (.int .u64 l[i].v)
 | e ::l,0,_=>by simp[eI,Av]
 | e ::l,i+1,h=>by
  have ih:=uB (l:=l) (i:=i) (by simpa using h);rw[show(i+1)*4=i*4+1+1+1+1 by omega];exact ih
theorem xL:lS P 26 47 4 (P.bytesOf 47):=⟨(P.info? 47).getD default,((P.info? 47).getD default).zero.getD undef,by kernel_rfl,by kernel_rfl,by kernel_rfl,by kernel_rfl,by kernel_rfl,by kernel_rfl,by decide⟩
theorem Az:P.bytesOf 47<=64:=of_decide_eq_true (by kernel_rfl)
theorem iM{w:World}{base:Nat}{A B:OA}{n c m d:Nat}{xs ys:List Cm}(ho:aE w base 47 4 A n c (eI xs))(hB:bS w B (eI ys))(hm:m=ys.length)(hd:B=none->d=0)(hn:n+m<=2^39)(hb:base<=w.heap.size):
    ∃ (A':OA) (n' c':Nat) (w':World),Sem.run P (Builtin.append_ #[26,26] 26 #[.slice A n c,.slice B m d]) w=.ok (.slice A' n' c') w' ∧
      aE w' base 47 4 A' n' c' (eI (xs++ys))/\w.grownBy w' (Value.slice A n c).ownBlock/\n'=n+m:=by
  cases B with
  | none =>
    have Fa:ys=[]:=by
      cases ys with
      | nil=>rfl
      | cons y ys=>obtain⟨a,e,_⟩:=hB 0 _ rfl;cases e
    subst Fa;have h0:m=0:=by simpa using hm
    have h1:=hd rfl;subst h0 h1;exact⟨A,n,c,w,ho.appends_nil xL,by simpa using ho,aF _ _,rfl⟩
  | some a =>
    obtain⟨A',n',c',w',h1,h2,h3,h4,_⟩:=ho.appends (ty:=26) xL Az (a:=a) (m:=m) (cc:=d) (us:=eI ys) (by rw[uA,hm]) (fun j u hj=>by obtain⟨b,q1,q2⟩:=hB j u hj;cases q1;exact q2) (fun u hu=>by
      simp only[eI,List.mem_flatMap]at hu;obtain⟨e,_,he⟩:=hu;simp[Av]at he;rcases he with rfl | rfl | rfl | rfl <;>rfl) (by omega) hb
    exact⟨A',n',c',w',h1,by rw[uC];exact h2,h4,h3⟩
theorem pY{w:World}{g:Nat}{c:Cm}{t:TypeId}{fr:Nat×Nat}(h:w.heap[g]?=some (.cells #[.int .i64 c.k,.int .i64 c.t,.int .u64 c.u,.int .u64 c.v] t fr)):bS w (some ⟨g,0,none⟩) (eI [c]):=by
 intro j u hj;refine⟨_,rfl,?_⟩;rw[bW,aA h];simpa[eI,Av]using hj
theorem iE{W:World}{g:Nat}{t:TypeId}{a0 a1 a2 a3:Value}(h:W.heap[g]?=some (.cells #[a0,a1,a2,a3] t (0,0)))(b0 b1 b2 b3:Value):∃ v,v=(((W.setCell ⟨g,0,none⟩ b0).setCell ⟨g,1,none⟩ b1).setCell ⟨g,2,none⟩ b2).setCell ⟨g,3,none⟩ b3/\v.heap[g]?=some (.cells #[b0,b1,b2,b3] t (0,0))/\Kp W v (fun k=>k=g) ∧
    (∃ u,W.cell? ⟨g,0,none⟩=some u)/\W.frozen? ⟨g,0,none⟩=false/\(∃ u,(W.setCell ⟨g,0,none⟩ b0).cell? ⟨g,1,none⟩=some u)/\(W.setCell ⟨g,0,none⟩ b0).frozen? ⟨g,1,none⟩=false/\(∃ u,((W.setCell ⟨g,0,none⟩ b0).setCell ⟨g,1,none⟩ b1).cell? ⟨g,2,none⟩=some u)/\((W.setCell ⟨g,0,none⟩ b0).setCell ⟨g,1,none⟩ b1).frozen? ⟨g,2,none⟩=false/\(∃ u,(((W.setCell ⟨g,0,none⟩ b0).setCell ⟨g,1,none⟩ b1).setCell ⟨g,2,none⟩ b2).cell? ⟨g,3,none⟩=some u)/\(((W.setCell ⟨g,0,none⟩ b0).setCell ⟨g,1,none⟩ b1).setCell ⟨g,2,none⟩ b2).frozen? ⟨g,3,none⟩=false:=by
  have s1:=aG h 0 b0;have s2:=aG s1 1 b1;have s3:=aG s2 2 b2;have s4:=aG s3 3 b3;exact⟨_,rfl,by simpa using s4,dH (dH (dH (dH (Kp.refl W _) rfl) rfl) rfl) rfl,⟨_,aA h 0⟩,aD h 0,⟨_,aA s1 1⟩,aD s1 1,⟨_,aA s2 2⟩,aD s2 2,⟨_,aA s3 3⟩,aD s3 3⟩
theorem qO{W:World}{g:Nat}{t:TypeId}{a0 a1:Value}(h:W.heap[g]?=some (.cells #[a0,a1] t (0,0)))(b0 b1:Value):∃ v,v=(W.setCell ⟨g,0,none⟩ b0).setCell ⟨g,1,none⟩ b1/\v.heap[g]?=some (.cells #[b0,b1] t (0,0))/\Kp W v (fun k=>k=g) ∧
    (∃ u,W.cell? ⟨g,0,none⟩=some u)/\W.frozen? ⟨g,0,none⟩=false/\(∃ u,(W.setCell ⟨g,0,none⟩ b0).cell? ⟨g,1,none⟩=some u)/\(W.setCell ⟨g,0,none⟩ b0).frozen? ⟨g,1,none⟩=false:=by
  have s1:=aG h 0 b0;have s2:=aG s1 1 b1;exact⟨_,rfl,by simpa using s2,dH (dH (Kp.refl W _) rfl) rfl,⟨_,aA h 0⟩,aD h 0,⟨_,aA s1 1⟩,aD s1 1⟩
theorem pD(c d:Cm)(w:World):(Op.equalIn 10000 47 (gT c) (gT d)).run P w=.ok (decide (c=d)) w:=by
 rw[run_equalIn_struct w 9999 47 _ _ (by kernel_rfl) (by kernel_rfl)];obtain ⟨f, g, h, k, Ej, DD, DC, Ek, Eh, Ef, Ee, HE, HD, HC, DM, Ea, Hv⟩ : ∃ f g h k : Field, (P.fieldsOf 47).toList = [f, g, h, k] ∧ f.name = "Kind" ∧ f.type = 3 ∧ f.offset = 0 ∧ g.name = "T" ∧ g.type = 2 ∧ g.offset = 1 ∧ h.name = "U" ∧ h.type = 28 ∧ h.offset = 2 ∧ k.name = "V" ∧ k.type = 28 ∧ k.offset = 3 :=
  ⟨((P.fieldsOf 47).toList)[0]!,((P.fieldsOf 47).toList)[1]!,((P.fieldsOf 47).toList)[2]!,((P.fieldsOf 47).toList)[3]!,by kernel_rfl,by kernel_rfl,by kernel_rfl,by kernel_rfl,by kernel_rfl,by kernel_rfl,by kernel_rfl,by kernel_rfl,by kernel_rfl,by kernel_rfl,by kernel_rfl,by kernel_rfl,by kernel_rfl⟩
 rw[Ej];have u1:P.underlying 3=some (.int .i64):=by kernel_rfl
 have u2:P.underlying 2=some (.int .i64):=by kernel_rfl
 have u3:P.underlying 28=some (.int .u64):=by kernel_rfl
 have p1:P.plainKey 3=true:=by kernel_rfl
 have p2:P.plainKey 2=true:=by kernel_rfl
 have p3:P.plainKey 28=true:=by kernel_rfl
 have e1:∀(x:Cm)(w:World),(part 3 #[.int .i64 x.k,.int .i64 x.t,.int .u64 x.u,.int .u64 x.v] 0).run P w=.ok (.int .i64 x.k) w:=fun x w=>run_part_plain w p1 rfl;have e2:∀(x:Cm)(w:World),(part 2 #[.int .i64 x.k,.int .i64 x.t,.int .u64 x.u,.int .u64 x.v] 1).run P w=.ok (.int .i64 x.t) w:=fun x w=>run_part_plain w p2 rfl;have e3:∀(x:Cm)(w:World),(part 28 #[.int .i64 x.k,.int .i64 x.t,.int .u64 x.u,.int .u64 x.v] 2).run P w=.ok (.int .u64 x.u) w:=fun x w=>run_part_plain w p3 rfl;have e4:∀(x:Cm)(w:World),(part 28 #[.int .i64 x.k,.int .i64 x.t,.int .u64 x.u,.int .u64 x.v] 3).run P w=.ok (.int .u64 x.v) w:=fun x w=>run_part_plain w p3 rfl;have q1:∀(x y:Int)(w:World),(Op.equalIn 9999 3 (.int .i64 x) (.int .i64 y)).run P w=.ok (x ==y) w:=fun x y w=>run_equalIn_int w 9998 _ _ _ _ _ u1;have q2:∀(x y:Int)(w:World),(Op.equalIn 9999 2 (.int .i64 x) (.int .i64 y)).run P w=.ok (x ==y) w:=fun x y w=>run_equalIn_int w 9998 _ _ _ _ _ u2;have q3:∀(x y:Int)(w:World),(Op.equalIn 9999 28 (.int .u64 x) (.int .u64 y)).run P w=.ok (x ==y) w:=fun x y w=>run_equalIn_int w 9998 _ _ _ _ _ u3;simp only[Op.eqFields,DD,DC,Ek,Eh,Ef,Ee,HE,HD,HC,DM,Ea,Hv,Sem.run_bind,Sem.run_ite,e1,e2,e3,e4,q1,q2,q3,Result.andThen_ok];obtain⟨k1,t1,u1,v1⟩:=c;obtain⟨k2,t2,u2,v2⟩:=d;simp only[Cm.mk.injEq];by_cases h1:k1=k2 <;>by_cases h2:t1=t2 <;>by_cases h3:u1=u2 <;>by_cases h4:v1=v2 <;>simp[h1,h2,h3,h4]
theorem AQ(s t:Operand)(c d:Cm)(w:World):Sem.run P (do eqGuard .eql 47 s t (gT c) (gT d);Go.binOp .eql 47 (gT c) (gT d):Sem Value) w=.ok (.bool (decide (c=d))) w:=by
 rw[Sem.run_bind,run_eqGuard_agg w .eql 47 s t _ _ (by kernel_rfl),Result.andThen_ok,run_eql_struct w,pD];rfl
theorem AN(s t:Operand)(c d:Cm)(w:World):Sem.run P (do eqGuard .neq 47 s t (gT c) (gT d);Go.binOp .neq 47 (gT c) (gT d):Sem Value) w=.ok (.bool (!decide (c=d))) w:=by
 rw[Sem.run_bind,run_eqGuard_agg w .neq 47 s t _ _ (by kernel_rfl),Result.andThen_ok,run_neq_struct w,pD];rfl
abbrev mM(x:Int):Value:=.int .i64 x
abbrev iU(l:List Int):Value:=.string (aO l)
def yF(x:Int):Prop:=-9223372036854775808<=x/\x<=9223372036854775807
theorem vP:Bt P 3 mM yF where
 law:=Maps.int_keyed Tryz.underlying3
 key:=fun x hx=>⟨_,Maps.keyOf_int_mk Tryz.underlying3 (xS hx)⟩
 inj:=fun x y h=>by simpa[mM]using h
def fH:List (Int×List Int):=[(1,bN 1),(2,bN 2),(3,bN 3),(4,bN 4),(5,bN 5),(6,bN 6)]
abbrev B8(w:World)(b:Nat)(L:List (Int×List Int)):Prop:=dI mM yF iU w b L
theorem gY{w:World}:Calls P 47 #[] w fun ev w'=>ev=.returned (.map (some w.heap.size))/\B8 w' w.heap.size fH/\w.grownBy w' none:=by
 apply vc47;dsimp only[VC47,iq];have h0:B8 (w.alloc (.map #[] 0)) w.heap.size []:=dI.made w;have g0:=World.grownBy_alloc w (.map #[] 0) none;have ok:∀ x:Int,0<=x->x<=6->yF x:=fun x h1 h2=>by unfold yF;omega
 obtain⟨w1,r1,m1,g1⟩:=dI.update vP Tryz.underlying104 h0 (ok 1 (by omega) (by omega)) (bN 1);obtain⟨w2,r2,m2,g2⟩:=dI.update vP Tryz.underlying104 m1 (ok 2 (by omega) (by omega)) (bN 2);obtain⟨w3,r3,m3,g3⟩:=dI.update vP Tryz.underlying104 m2 (ok 3 (by omega) (by omega)) (bN 3);obtain⟨w4,r4,m4,g4⟩:=dI.update vP Tryz.underlying104 m3 (ok 4 (by omega) (by omega)) (bN 4);obtain⟨w5,r5,m5,g5⟩:=dI.update vP Tryz.underlying104 m4 (ok 5 (by omega) (by omega)) (bN 5);obtain⟨w6,r6,m6,g6⟩:=dI.update vP Tryz.underlying104 m5 (ok 6 (by omega) (by omega)) (bN 6);have st:∀ {a b:World},w.grownBy a none->a.grownBy b (some w.heap.size)->w.grownBy b none:=fun h h'=>aP h h' (fun k hk=>by cases hk;exact Nat.le_refl _);exact⟨w1,r1,w2,r2,w3,r3,w4,r4,w5,r5,w6,r6,rfl,m6,st (st (st (st (st (st g0 g1) g2) g3) g4) g5) g6⟩
theorem yX(w:World):(zeroValue 9).run P w=.ok (.string (aO [])) w:=by
 have h:((P.info? 9).getD default).zero=some (.string (aO [])):=by kernel_rfl
 have h2:(P.info? 9).isSome=true:=by kernel_rfl
 cases hq:P.info? 9 with
 | none=>rw[hq]at h2;cases h2
 | some i=>rw[hq]at h;simp at h;simp[zeroValue,typeInfo,hq,h]
theorem vY(k:Int):(eU fH k).getD []=bN k:=by
 by_cases h:gR k
 ·rcases h with rfl | rfl | rfl | rfl | rfl | rfl <;>rfl
 ·unfold gR at h;simp only[not_or]at h;obtain⟨h1,h2,h3,h4,h5,h6⟩:=h;simp[fH,eU,bN,h1,h2,h3,h4,h5,h6,Ne.symm h1,Ne.symm h2,Ne.symm h3,Ne.symm h4,Ne.symm h5,Ne.symm h6]
theorem oH{w:World}{b:Nat}(h:B8 w b fH){k:Int}(hk:yF k):Sem.run P (Instr.lookup 104 (.map (some b)) (.int .i64 k) false) w=.ok (.string (aO (bN k))) w:=by
 have:=dI.look vP (mt:=104) (et:=9) Tryz.underlying104 (yX w) h hk false;simp only[if_false,Bool.false_eq_true]at this;rw[this,← vY];cases eU fH k <;>rfl
def uG(c:Cm):Cm:=if c.k=1 then⟨c.k,c.t,0,0⟩ else if c.k=2∨c.k=5 then⟨c.k,0,c.u,c.v⟩ else if c.k=3∨c.k=6 then⟨c.k,0,c.u,0⟩ else⟨c.k,0,0,0⟩
theorem wM{w:World}(c:Cm):Calls P 50 #[gT c] w fun ev w'=>ev=.returned (gT (uG c))/\w.grownBy w' none:=by
 apply vc50;dsimp only[VC50,Wt,Br,Bb,Rd,Ws,nb,iq];obtain⟨W0,CK,g0,b0⟩:=bP w #[.int .i64 c.k,.int .i64 c.t,.int .u64 c.u,.int .u64 c.v] 47;rw[← CK];obtain⟨W1,Ez,g1,b1⟩:=bP W0 #[.int .i64 0,.int .i64 0,.int .u64 0,.int .u64 0] 47;rw[← Ez];have DI:=aB g0 g1;have b0':=aC b0 g1;have lt0:=(Array.getElem?_eq_some_iff.1 b0).1;have gs:=g0.size;obtain⟨k,t,u,v⟩:=c;unfold uG;simp only at b0 b0' ⊢;have fin:∀ a b c d:Int,∃ V,V=(((W1.setCell ⟨W0.heap.size,0,none⟩ (.int .i64 a)).setCell ⟨W0.heap.size,1,none⟩ (.int .i64 b)).setCell ⟨W0.heap.size,2,none⟩ (.int .u64 c)).setCell ⟨W0.heap.size,3,none⟩ (.int .u64 d)/\V.heap[W0.heap.size]?=some (.cells #[.int .i64 a,.int .i64 b,.int .u64 c,.int .u64 d] 47 (0,0))/\w.grownBy V none:=fun a b c d=>by
  obtain⟨V,hV,h1,h2,_⟩:=iE b1 (.int .i64 a) (.int .i64 b) (.int .u64 c) (.int .u64 d);exact⟨V,hV,h1,((Kp.of_none DI).then h2 (fun k hk e=>e)).grown (fun k hk e=>by omega)⟩
 refine⟨k,aA b0' 0,fun h1=>?_,fun h1=>?_⟩
 ·obtain⟨V,hV,h2,h3,f⟩:=iE b1 (.int .i64 k) (.int .i64 t) (.int .u64 0) (.int .u64 0);obtain⟨V',DG,h4,h5⟩:=fin k t 0 0;obtain rfl:V=V':=hV.trans DG.symm;refine⟨k,aA b0' 0,t,aA b0' 1,f.1,f.2.1,f.2.2.1,f.2.2.2.1,f.2.2.2.2.1,f.2.2.2.2.2.1,f.2.2.2.2.2.2.1,f.2.2.2.2.2.2.2,?_⟩;rw[← hV];exact⟨k,aA h2 0,t,aA h2 1,0,aA h2 2,0,aA h2 3,by rw[if_pos h1],h5⟩
 refine⟨fun x w'=>w'=W1/\x=decide (k=2∨k=5),⟨fun h=>⟨rfl,by rw[decide_eq_decide];omega⟩,fun h=>⟨rfl,by rw[decide_eq_decide];omega⟩⟩,?_⟩;rintro x w1 ⟨hw,rfl⟩;obtain rfl:W1=w1:=hw.symm;refine⟨fun h2=>?_,fun h2=>?_⟩
 ·have h2:=of_decide_eq_true h2;obtain⟨V,hV,h3,h4,f⟩:=iE b1 (.int .i64 k) (.int .i64 0) (.int .u64 u) (.int .u64 v);obtain⟨V',DG,h4,h5⟩:=fin k 0 u v;obtain rfl:V=V':=hV.trans DG.symm;refine⟨k,aA b0' 0,u,aA b0' 2,v,aA b0' 3,f.1,f.2.1,f.2.2.1,f.2.2.2.1,f.2.2.2.2.1,f.2.2.2.2.2.1,f.2.2.2.2.2.2.1,f.2.2.2.2.2.2.2,?_⟩;rw[← hV];exact⟨k,aA h3 0,0,aA h3 1,u,aA h3 2,v,aA h3 3,by rw[if_neg h1,if_pos h2],h5⟩
 have h2:=of_decide_eq_false h2;refine⟨fun x w'=>w'=W1/\x=decide (k=3∨k=6),⟨fun h=>⟨rfl,by rw[decide_eq_decide];omega⟩,fun h=>⟨rfl,by rw[decide_eq_decide];omega⟩⟩,?_⟩;rintro x w1 ⟨hw,rfl⟩;obtain rfl:W1=w1:=hw.symm;refine⟨fun h3=>?_,fun h3=>?_⟩
 ·have h3:=of_decide_eq_true h3;obtain⟨V,hV,h4,h5,f⟩:=iE b1 (.int .i64 k) (.int .i64 0) (.int .u64 u) (.int .u64 0);obtain⟨V',DG,h6,h5⟩:=fin k 0 u 0;obtain rfl:V=V':=hV.trans DG.symm;refine⟨k,aA b0' 0,u,aA b0' 2,f.1,f.2.1,f.2.2.1,f.2.2.2.1,f.2.2.2.2.1,f.2.2.2.2.2.1,f.2.2.2.2.2.2.1,f.2.2.2.2.2.2.2,?_⟩;rw[← hV];exact⟨k,aA h4 0,0,aA h4 1,u,aA h4 2,0,aA h4 3,by rw[if_neg h1,if_neg h2,if_pos h3],h5⟩
 ·have h3:=of_decide_eq_false h3;obtain⟨V,hV,h4,h5,f⟩:=iE b1 (.int .i64 k) (.int .i64 0) (.int .u64 0) (.int .u64 0);obtain⟨V',DG,h6,h5⟩:=fin k 0 0 0;obtain rfl:V=V':=hV.trans DG.symm;refine⟨k,aA b0' 0,f.1,f.2.1,f.2.2.1,f.2.2.2.1,f.2.2.2.2.1,f.2.2.2.2.2.1,f.2.2.2.2.2.2.1,f.2.2.2.2.2.2.2,?_⟩;rw[← hV];exact⟨k,aA h4 0,0,aA h4 1,0,aA h4 2,0,aA h4 3,by rw[if_neg h1,if_neg h2,if_neg h3],h5⟩
theorem jG(c:Cm):bH c=(decide (bN c.k≠[]) && (decide (c=uG c) && decide (c.t≥0))):=by
 obtain⟨k,t,u,v⟩:=c;unfold bH uG;rw[Bool.eq_iff_iff];by_cases h1:k=1
 ·subst h1;simp[bN];omega
 by_cases h2:k=2∨k=5
 ·have:bN k≠[]:=fun h=>sU h (by omega);simp[h1,h2,this];omega
 by_cases h3:k=3∨k=6
 ·have:bN k≠[]:=fun h=>sU h (by omega);simp[h1,h2,h3,this];omega
 by_cases h4:k=4
 ·subst h4;simp[bN];omega
 ·simp only[not_or]at h2 h3;simp[h1,h2,h3,h4,bN]
theorem cW{w:World}{c:Cm}(hc:yF c.k):Calls P 17 #[gT c] w fun ev w'=>ev=.returned (.bool (bH c))/\w.grownBy w' none:=by
 apply vc17;dsimp only[VC17,rb,Bb,Rd,Rc,Eg,nb,iq];obtain⟨W0,CK,g0,b0⟩:=bP w #[.int .i64 c.k,.int .i64 c.t,.int .u64 c.u,.int .u64 c.v] 47;rw[← CK];have cd:∀ {u:World},u.heap[w.heap.size]?=some (.cells #[.int .i64 c.k,.int .i64 c.t,.int .u64 c.u,.int .u64 c.v] 47 (0,0))->u.cell? ⟨w.heap.size,0,none⟩=some (.int .i64 c.k)/\u.cell? ⟨w.heap.size,1,none⟩=some (.int .i64 c.t)/\u.cell? ⟨w.heap.size,2,none⟩=some (.int .u64 c.u)/\u.cell? ⟨w.heap.size,3,none⟩=some (.int .u64 c.v):=fun h=>⟨aA h 0,aA h 1,aA h 2,aA h 3⟩;refine⟨fun u=>u.heap[w.heap.size]?=some (.cells #[.int .i64 c.k,.int .i64 c.t,.int .u64 c.u,.int .u64 c.v] 47 (0,0)),b0,gY.mono fun ev w1 hh=>?_⟩;obtain⟨rfl,hm,g1⟩:=hh;have b1:=aC (w:=W0.drew) b0 g1;have DI:=aB (aK g0) g1;refine⟨_,rfl,b1,c.k,fun u h=>(cd h).1,_,oH hm hc,_,fun w=>mN _ _ _ _ w,fun h=>?_,fun h=>?_⟩
 ·rw[show(⟨#[]⟩:ByteArray)=aO [] from rfl]at h;have hk:bN c.k≠[]:=fun e=>by rw[e]at h;simp at h
  refine⟨c.k,fun u h=>(cd h).1,c.t,fun u h=>(cd h).2.1,c.u,fun u h=>(cd h).2.2.1,c.v,fun u h=>(cd h).2.2.2,c.k,(cd b1).1,c.t,(cd b1).2.1,c.u,(cd b1).2.2.1,c.v,(cd b1).2.2.2,(wM c).mono fun ev w2 hh=>?_⟩;obtain⟨rfl,g2⟩:=hh;have b2:=aC b1 g2;refine⟨_,_,_,_,rfl,b2,_,fun w=>AQ _ _ c (uG c) w,fun h=>?_,fun h=>?_⟩
  ·refine⟨c.t,(cd b2).2.1,?_,aB DI g2⟩;rw[jG,decide_eq_true hk,h];rfl
  ·refine⟨?_,aB DI g2⟩;rw[jG,h,Bool.false_and,Bool.and_false]
 ·refine⟨?_,DI⟩;have hk:bN c.k=[]:=by
   have:=pR (l:=bN c.k);rw[show(decide (aO (bN c.k)=⟨#[]⟩))=true by simpa using h]at this;exact of_decide_eq_true this.symm
  rw[jG,hk];rfl
theorem xF{κ υ:Type}[DecidableEq κ]{k:κ}{done:List κ}:∀ L:List (κ×υ),(L.filter fun q=>decide (q.1 ∉ k ::done)).length<=(L.filter fun q=>decide (q.1 ∉ done)).length
 | []=>Nat.le_refl _
 | q ::L=>by
  have ih:=xF (k:=k) (done:=done) L;rw[List.filter_cons,List.filter_cons];by_cases h1:q.1∈done
  ·rw[if_neg (by simp[h1]),if_neg (by simp[h1])];exact ih
  ·rw[if_pos (c:=decide (q.1 ∉ done)=true) (by simp[h1]),List.length_cons];by_cases h2:q.1=k
   ·rw[if_neg (by simp[h2])];omega
   ·rw[if_pos (by simp[h1,h2]),List.length_cons];omega
theorem xE{κ υ:Type}[DecidableEq κ]{p:κ×υ}{done:List κ}(hn:p.1 ∉ done):∀ {L:List (κ×υ)},p∈L->(L.filter fun q=>decide (q.1 ∉ p.1 ::done)).length<(L.filter fun q=>decide (q.1 ∉ done)).length
 | q ::L,h=>by
  rw[List.filter_cons,List.filter_cons];rcases List.mem_cons.1 h with rfl | h
  ·have:=xF (k:=p.1) (done:=done) L;rw[if_neg (by simp),if_pos (by simp[hn]),List.length_cons];omega
  ·have ih:=xE hn h;by_cases h1:q.1∈done
   ·rw[if_neg (by simp[h1]),if_neg (by simp[h1])];exact ih
   ·rw[if_pos (c:=decide (q.1 ∉ done)=true) (by simp[h1]),List.length_cons];by_cases h2:q.1=p.1
    ·rw[if_neg (by simp[h2])];omega
    ·rw[if_pos (by simp[h1,h2]),List.length_cons];omega
theorem Ad(k:Int):bB (bN k):=by
 unfold bN
 repeat' split
 all_goals decide
theorem Ae{k:Int}{v:List Int}(hk:gR k)(h:bN k=v):bU v=k:=by rw[← h,xG hk]
theorem vO {w:World} {v:List Int} (hv:bB v):Calls P 33 #[iU v] w fun ev w'=>ev=.returned (.int .i64 (bU v))/\w.grownBy w' none:=by
  apply vc33;dsimp only[VC33,Bb,Eg,iq];refine gY.mono fun ev w1 hh=>?_;obtain⟨rfl,hm,g1⟩:=hh;obtain⟨o,Cp,hI⟩:=dI.range Tryz.underlying104 hm;have g2:=aB g1 (World.grownBy_alloc w1 o none);have Cl:=g1.size;refine⟨_,rfl,_,_,Cp,fun m w'=>∃ (done:List Int) (last:Option (Int×List Int)),jP mM iU w' w1.heap.size w.heap.size fH done last/\(∀ k∈done,gR k/\bN k≠v)/\w.grownBy w' none/\m=(fH.filter fun q=>decide (q.1 ∉ done)).length,⟨_,[],none,hI,by simp,g2,rfl⟩,?_⟩;rintro m w2 ⟨done,last,hI,hd,g3,rfl⟩;have hE:∀ x y:Int,mM x=mM y->x=y:=fun x y h=>by simpa[mM]using h
  rcases hI.next (P:=P) hE 0 with⟨Cd,Cp⟩ | ⟨p,hp,Hj,w3,Cp,GH,K3⟩
  · refine⟨_,.inl ⟨Cp,fun h=>(by cases h),fun _=>⟨?_,g3⟩⟩⟩;congr 2;by_cases h:bU v=0
    · exact h.symm
    · exfalso;obtain⟨h1,h2⟩:=sV h;have:(bU v,bN (bU v))∈fH:=by
        unfold fH;rcases h2 with h | h | h | h | h | h <;>rw[h] <;>simp
      exact(hd _ (Cd _ this)).2 h1.symm
  · have D9:p.2=bN p.1/\gR p.1:=by
      unfold fH at hp;simp only[List.mem_cons,List.not_mem_nil,or_false]at hp;unfold gR;rcases hp with rfl | rfl | rfl | rfl | rfl | rfl <;>simp
    have g4:w.grownBy w3 none:=((Kp.of_none g3).then K3 (fun k hk e=>e)).grown (fun k hk e=>by omega);refine⟨_,.inr ⟨_,_,Cp,fun _=>⟨_,_,_,GH.entry,_,fun w=>hO _ _ _ _ w,fun h=>?_,fun h=>?_⟩,fun h=>(by cases h)⟩⟩
    · have h:=oK (by rw[D9.1];exact Ad _) hv (of_decide_eq_true h);refine⟨?_,g4⟩;rw[Ae D9.2 (by rw[← D9.1];exact h)]
    · have h:aO p.2≠aO v:=of_decide_eq_false h;refine⟨_,xE Hj hp,p.1 ::done,_,GH,?_,g4,rfl⟩;intro k hk;rcases List.mem_cons.1 hk with rfl | hk
      · exact⟨D9.2,fun e=>h (by rw[D9.1,e])⟩
      · exact hd k hk
theorem hY{a b:List Int}(h:a.length+b.length<=9223372036854775807)(w:World):Sem.run P (Go.binOp .add 9 (iU a) (iU b)) w=.ok (iU (a++b)) w:=by
 have:=run_string_add_sum (P:=P) (w:=w) (aO a) (aO b) (by rw[aZ,aZ];exact h);rw[xX]at this;exact this
theorem yY{b:Int}{s:Sn}{r:List Int}(he:s.e=0)(hl:s.l=b ::r):bE [b] s=(true,skN 1 s):=fM he (by rw[hl];rfl)
theorem rU {w:World} {b:Nat} {s:Sn} (h:Sq w b s) (he:s.e=0):Calls P 34 #[pW b] w fun ev w'=>ev=.returned (iU (s.l.takeWhile bO))/\Sq w' b (skN (s.l.takeWhile bO).length s)/\Kp w w' (fun k=>k=b):=by
  apply vc34;dsimp only[VC34,Br,Bb,cB,nb];have hW:=jT bO s.l;obtain⟨W,EU⟩:∃ W,W=(s.l.takeWhile bO).length:=⟨_,rfl⟩;have Ch:s.l.length<=2^40:=by have:=h.2.1;omega
  refine(eP h).mono fun ev w1 hh=>?_;obtain⟨rfl,rfl⟩:=hh;refine⟨_,_,rfl,fun m v x is w'=>∃ j:Nat,v=aO (s.l.take j)/\j<=W/\m=W-j/\Sq w' b (skN j s)/\Kp w1 w' (fun k=>k=b)/\x=(jA (skN j s)).1/\is=(jA (skN j s)).2,⟨_,0,rfl,by omega,rfl,h,Kp.refl _ _,rfl,rfl⟩,?_⟩;rintro m v x is w2 ⟨j,rfl,hj,rfl,h2,k2,rfl,rfl⟩;have e2:(skN j s).e=0:=by rw[fT];exact he
  have Hp:jA (skN j s)=((skN j s).l.headD 0,decide ((skN j s).l≠[])):=by unfold jA;rw[if_neg (by simp[e2])]
  rw[Hp];have DK:=eH j s;have fin:j=W->(iU (s.l.take j)=iU (s.l.takeWhile bO)/\Sq w2 b (skN (s.l.takeWhile bO).length s)):=fun e=>by
    subst e;refine⟨?_,by rw[← EU];exact h2⟩;have:=kX bO s.l;rw[← EU]at this;congr 2
    conv=>lhs;rw[this,List.take_left' EU.symm]
  refine⟨fun hx=>?_,fun hx=>?_⟩
  · have hx:(skN j s).l≠[]:=of_decide_eq_true hx;have Dg:j<s.l.length:=by
      rw[DK]at hx;have:=List.length_pos_iff.2 hx;rw[List.length_drop]at this;omega
    have Dt:(skN j s).l=s.l[j] ::s.l.drop (j+1):=by rw[DK,List.drop_eq_getElem_cons Dg]
    have HB:(skN j s).l.headD 0=s.l[j]:=by rw[Dt];rfl
    have DA:=lX bO (l:=s.l) (i:=j) (by omega) Dg;have Gu:=h.2.2.2 _ (List.getElem_mem Dg);rw[HB];have out:¬ (s.l[j]≥97/\s.l[j]<=122)->j=W:=fun hn=>by
      have:¬ j<W:=fun Cc=>hn (by
        rw[← EU,decide_eq_true Cc]at DA;exact of_decide_eq_true (p:=s.l[j]≥97/\s.l[j]<=122) DA)
      omega
    refine⟨fun h1=>⟨fun FO=>?_,fun FO=>?_⟩,fun h1=>?_⟩
    · have IE:j<W:=by
        have:bO s.l[j]=true:=by unfold bO;rw[decide_eq_true_iff];exact⟨h1,FO⟩
        rw[DA]at this;have:=of_decide_eq_true this;omega
      refine(gE h2 Gu).mono fun ev w3 hh=>?_;obtain⟨rfl,h3,k3⟩:=hh;rw[yY e2 Dt]at h3;have h3:Sq w3 b (skN 1 (skN j s)):=h3;rw[eE]at h3;have g4:=World.grownBy_alloc w3 (.cells #[.int .u8 s.l[j]] 5) none;refine⟨_,rfl,_,BG Gu,_,fun w=>hY (by simp;omega) w,(eP (h3.kept g4)).mono fun ev w4 hh=>?_⟩;obtain⟨rfl,rfl⟩:=hh;refine⟨_,_,rfl,W-(j+1),by omega,j+1,by rw[List.take_succ_eq_append_getElem Dg],by omega,rfl,h3.kept g4,(k2.then k3 (fun _ _ e=>e)).alloc _,rfl,rfl⟩
    · obtain⟨f1,f2⟩:=fin (out fun h=>FO h.2);exact⟨by rw[← f1],f2,k2⟩
    · obtain⟨f1,f2⟩:=fin (out fun h=>h1 h.1);exact⟨by rw[← f1],f2,k2⟩
  · have hx:(skN j s).l=[]:=by simpa using hx
    have:j=W:=by
      rw[DK]at hx;have:=congrArg List.length hx;simp at this;omega
    obtain⟨f1,f2⟩:=fin this;exact⟨by rw[← f1],f2,k2⟩
theorem vG{m:Int}{s:Sn}(hm:0<=m):0<=(dQ m s).1/\(dQ m s).1<=m:=by
 unfold dQ;split
 ·exact⟨Int.le_refl _,hm⟩
 ·split
  ·exact⟨Int.le_refl _,hm⟩
  ·split
   ·exact⟨Int.le_refl _,hm⟩
   ·split
    ·exact⟨Int.le_refl _,hm⟩
    ·rename_i v hv;have CT:∀ x∈s.l.takeWhile bX,bX x=true:=fun x hx=>List.all_eq_true.1 (List.all_takeWhile (p:=bX) (l:=s.l)) x hx;obtain⟨h1,h2⟩:=oY CT (by omega) hm hv;have:=lE (v:=0) (by omega) CT;show 0<=v/\v<=m;omega
theorem vM{w:World}{b:Nat}{s:Sn}{q:Nat}{most:Int}(h:Sq w b s)(hq:w.heap[q]?=some (.cells #[pW b] 78 (0,0)))(Cg:q≠b)(hm:0<=most/\most<=18446744073709551615):
    Calls P 64 #[.int .u64 most,.pointer (some ⟨q,0,none⟩)] w fun ev w'=>ev=.returned (.int .u64 (dQ most (bE [32] s).2).1)/\Sq w' b (dQ most (bE [32] s).2).2/\Kp w w' (fun k=>k=b):=by
  apply vc64;dsimp only[VC64,cI,cB];refine⟨_,aA hq 0,(gE h (x:=32) (by omega)).mono fun ev w1 hh=>?_⟩;obtain⟨rfl,h1,k1⟩:=hh;have Hg:w1.heap[q]?=_:=(k1.block q (Array.getElem?_eq_some_iff.1 hq).1 Cg).trans hq;refine⟨_,rfl,_,aA Hg 0,(mL h1 hm).mono fun ev w2 hh=>?_⟩;obtain⟨rfl,h2,k2⟩:=hh;exact⟨_,rfl,rfl,h2,k1.then k2 (fun _ _ e=>e)⟩
theorem AM{W:World}{g:Nat}{t:TypeId}{a0 a1 a2 a3:Value}(h:W.heap[g]?=some (.cells #[a0,a1,a2,a3] t (0,0))):
    (∀ u,(W.setCell ⟨g,1,none⟩ u).heap[g]?=some (.cells #[a0,u,a2,a3] t (0,0)))/\(∀ u,(W.setCell ⟨g,2,none⟩ u).heap[g]?=some (.cells #[a0,a1,u,a3] t (0,0)))/\∀ u,(W.setCell ⟨g,3,none⟩ u).heap[g]?=some (.cells #[a0,a1,a2,u] t (0,0)) :=
  ⟨fun u=>by simpa using aG h 1 u,fun u=>by simpa using aG h 2 u,fun u=>by simpa using aG h 3 u⟩
theorem zO{w w':World}{S:Nat->Prop}{g j:Nat}{u:Value}(h:Kp w w' S)(hg:w.heap.size<=g):Kp w (w'.setCell ⟨g,j,none⟩ u) S:=h.set (p:=⟨g,j,none⟩) (.inl hg) u
theorem rV{w:World}{b:Nat}{s:Sn}{k:Int}(h:Sq w b s):Calls P 35 #[pW b,.int .i64 k] w fun ev w'=>ev=.returned (gT (gQ k s).1)/\Sq w' b (gQ k s).2/\Kp w w' (fun k=>k=b):=by
 apply vc35;dsimp only[VC35,Wt,Br,Bb,Rd,Ws,cI,cB,nb,iq]
 try simp only[aH]
 obtain⟨W0,CK,g0,b0⟩:=bP w #[pW b] 78;rw[← CK];obtain⟨W1,Ez,g1,b1⟩:=bP W0 #[.int .i64 0,.int .i64 0,.int .u64 0,.int .u64 0] 47;rw[← Ez];obtain⟨W2,DN,g2,b2⟩:=bP W1 #[.int .i64 0,.int .i64 0,.int .u64 0,.int .u64 0] 47;rw[← DN];obtain⟨V,hV,v1,v2,f⟩:=iE b2 (.int .i64 k) (.int .i64 0) (.int .u64 0) (.int .u64 0);refine⟨f.1,f.2.1,f.2.2.1,f.2.2.2.1,f.2.2.2.2.1,f.2.2.2.2.2.1,f.2.2.2.2.2.2.1,f.2.2.2.2.2.2.2,?_⟩;rw[← hV];have z0:=g0.size;have z1:=g1.size;have z2:=g2.size;have lt:=h.lt;have lt0:=(Array.getElem?_eq_some_iff.1 b0).1;have lt1:=(Array.getElem?_eq_some_iff.1 b1).1;have CW:=aB (aB g0 g1) g2;have HX:Sq V b s:=(h.kept CW).kp v2 (by show ¬ b=_;omega);have kV:Kp w V (fun k=>k=b):=(Kp.of_none CW).then v2 (fun k hk e=>by omega)
 -- what each line's middle keeps
 let Z:Sn->Cm->World->Prop:=fun σ c w'=>Sq w' b σ/\Kp w w' (fun k=>k=b)/\w'.heap[w.heap.size]?=some (.cells #[pW b] 78 (0,0))/\w'.heap[W0.heap.size]?=some (.cells #[.int .i64 0,.int .i64 0,.int .u64 0,.int .u64 0] 47 (0,0))/\w'.heap[W1.heap.size]?=some (.cells #[.int .i64 c.k,.int .i64 c.t,.int .u64 c.u,.int .u64 c.v] 47 (0,0));have zV:Z s ⟨k,0,0,0⟩ V:=⟨HX,kV,by rw[v2.block _ (by omega) (by show ¬ w.heap.size=_;omega)];exact aC (aC b0 g1) g2,by rw[v2.block _ (by omega) (by show ¬ W0.heap.size=_;omega)];exact aC b1 g2,v1⟩
 -- a number is read
 have zN:∀ {σ c w1 most},Z σ c w1->(0<=most/\most<=18446744073709551615)->Calls P 64 #[.int .u64 most,.pointer (some ⟨w.heap.size,0,none⟩)] w1 fun ev w'=>ev=.returned (.int .u64 (dQ most (bE [32] σ).2).1)/\Z (dQ most (bE [32] σ).2).2 c w':=fun {σ c w1 most} hz hm=>by
  obtain⟨q1,q2,q3,q4,q5⟩:=hz;have:=(Array.getElem?_eq_some_iff.1 q3).1;have:=(Array.getElem?_eq_some_iff.1 q4).1;have:=(Array.getElem?_eq_some_iff.1 q5).1;refine(vM q1 q3 (by omega) hm).mono fun ev w2 hh=>?_;obtain⟨rfl,r1,r2⟩:=hh;exact⟨rfl,r1,q2.then r2 (fun _ _ e=>e),by rw[r2.block _ (by omega) (by show ¬ w.heap.size=b;omega)];exact q3,by rw[r2.block _ (by omega) (by show ¬ W0.heap.size=b;omega)];exact q4,by rw[r2.block _ (by omega) (by show ¬ W1.heap.size=b;omega)];exact q5⟩
 -- a cell is written
 have zS:∀ {σ c w1},Z σ c w1->(∀ x,Z σ { c with t:=x } (w1.setCell ⟨W1.heap.size,1,none⟩ (.int .i64 x)))/\(∀ x,Z σ { c with u:=x } (w1.setCell ⟨W1.heap.size,2,none⟩ (.int .u64 x)))/\∀ x,Z σ { c with v:=x } (w1.setCell ⟨W1.heap.size,3,none⟩ (.int .u64 x)):=fun {σ c w1} hz=>by
  obtain⟨q1,q2,q3,q4,q5⟩:=hz;have s5:=AM q5;have far:∀ (j:Nat) (u:Value) {g:Nat} {o:Obj},g≠W1.heap.size->w1.heap[g]?=some o->(w1.setCell ⟨W1.heap.size,j,none⟩ u).heap[g]?=some o:=fun j u {g o} hg ho=>by
   rw[(eZ (j:=j) (u:=u) (Kp.refl w1 (fun k=>k=W1.heap.size)) rfl).block g (Array.getElem?_eq_some_iff.1 ho).1 hg];exact ho
  exact⟨fun x=>⟨⟨far _ _ (by omega) q1.1,q1.2⟩,zO q2 (by omega),far _ _ (by omega) q3,far _ _ (by omega) q4,s5.1 _⟩,fun x=>⟨⟨far _ _ (by omega) q1.1,q1.2⟩,zO q2 (by omega),far _ _ (by omega) q3,far _ _ (by omega) q4,s5.2.1 _⟩,fun x=>⟨⟨far _ _ (by omega) q1.1,q1.2⟩,zO q2 (by omega),far _ _ (by omega) q3,far _ _ (by omega) q4,s5.2.2 _⟩⟩
 have zW:∀ {σ c w1},Z σ c w1->∀ j,j<4->(∃ u,w1.cell? ⟨W1.heap.size,j,none⟩=some u)/\w1.frozen? ⟨W1.heap.size,j,none⟩=false:=fun {σ c w1} hz j hj=>by
  obtain⟨q1,q2,q3,q4,q5⟩:=hz;refine⟨?_,aD q5 j⟩;rw[aA q5 j]
  match j,hj with
  | 0,_=>exact⟨_,rfl⟩
  | 1,_=>exact⟨_,rfl⟩
  | 2,_=>exact⟨_,rfl⟩
  | 3,_=>exact⟨_,rfl⟩
 refine⟨fun w'=>Z (lG k s).2 (lG k s).1 w',⟨fun h1=>?_,fun h1=>?_⟩,?_⟩
 ·refine(zN zV (by omega)).mono fun ev w1 hh=>?_;obtain⟨rfl,hz⟩:=hh;have hr:=vG (m:=9223372036854775807) (s:=(bE [32] s).2) (by decide);refine⟨_,rfl,⟨by omega,by omega⟩,(zW hz 1 (by omega)).1,(zW hz 1 (by omega)).2,?_⟩;unfold lG;rw[if_pos h1];exact(zS hz).1 _
 ·refine⟨fun x w'=>w'=V/\x=decide (k=2∨k=5),⟨fun h=>⟨rfl,by rw[decide_eq_decide];omega⟩,fun h=>⟨rfl,by rw[decide_eq_decide];omega⟩⟩,?_⟩;rintro x w1 ⟨hw,rfl⟩;obtain rfl:V=w1:=hw.symm;refine⟨fun h2=>?_,fun h2=>?_⟩
  ·refine(zN zV (by omega)).mono fun ev w1 hh=>?_;obtain⟨rfl,hz⟩:=hh;refine⟨_,rfl,(zW hz 2 (by omega)).1,(zW hz 2 (by omega)).2,?_⟩;refine(zN ((zS hz).2.1 _) (by omega)).mono fun ev w2 hh=>?_;obtain⟨rfl,hz⟩:=hh;refine⟨_,rfl,(zW hz 3 (by omega)).1,(zW hz 3 (by omega)).2,?_⟩;unfold lG;rw[if_neg h1,if_pos (of_decide_eq_true h2)];exact(zS hz).2.2 _
  have h2:=of_decide_eq_false h2;refine⟨fun x w'=>w'=V/\x=decide (k=3∨k=6),⟨fun h=>⟨rfl,by rw[decide_eq_decide];omega⟩,fun h=>⟨rfl,by rw[decide_eq_decide];omega⟩⟩,?_⟩;rintro x w1 ⟨hw,rfl⟩;obtain rfl:V=w1:=hw.symm;refine⟨fun h3=>?_,fun h3=>?_⟩
  ·refine(zN zV (by omega)).mono fun ev w1 hh=>?_;obtain⟨rfl,hz⟩:=hh;refine⟨_,rfl,(zW hz 2 (by omega)).1,(zW hz 2 (by omega)).2,?_⟩;unfold lG;rw[if_neg h1,if_neg h2,if_pos (of_decide_eq_true h3)];exact(zS hz).2.1 _
  ·unfold lG;rw[if_neg h1,if_neg h2,if_neg (of_decide_eq_false h3)];exact zV
 ·rintro w1 ⟨q1,q2,q3,q4,q5⟩;have:=(Array.getElem?_eq_some_iff.1 q3).1;have:=(Array.getElem?_eq_some_iff.1 q4).1;have:=(Array.getElem?_eq_some_iff.1 q5).1;refine⟨_,aA q3 0,(gE q1 (x:=10) (by omega)).mono fun ev w2 hh=>?_⟩;obtain⟨rfl,r1,r2⟩:=hh;have q4:w2.heap[W0.heap.size]?=_:=(r2.block _ (by omega) (by show ¬ W0.heap.size=b;omega)).trans q4;have q5:w2.heap[W1.heap.size]?=_:=(r2.block _ (by omega) (by show ¬ W1.heap.size=b;omega)).trans q5;generalize hc:(lG k s).1=c at q5;obtain⟨U,hU,u1,u2,f⟩:=iE q4 (.int .i64 c.k) (.int .i64 c.t) (.int .u64 c.u) (.int .u64 c.v);refine⟨_,rfl,_,aA q5 0,_,aA q5 1,_,aA q5 2,_,aA q5 3,f.1,f.2.1,f.2.2.1,f.2.2.2.1,f.2.2.2.2.1,f.2.2.2.2.2.1,f.2.2.2.2.2.2.1,f.2.2.2.2.2.2.2,?_⟩;rw[← hU];refine⟨_,aA u1 0,_,aA u1 1,_,aA u1 2,_,aA u1 3,?_,?_,?_⟩
  ·unfold gQ;simp only[hc]
  ·exact r1.kp u2 (by show ¬ b=W0.heap.size;omega)
  ·exact(q2.then r2 (fun _ _ e=>e)).then u2 (fun k hk e=>by omega)
abbrev parV(A:OA)(n c:Nat)(o:List Cm×Int×Int×Int):Value:=.tuple #[.slice A n c,.agg #[.int .i64 o.2.1,.int .i64 o.2.2.1],.int .i64 o.2.2.2]
def ParO(w:World)(o:List Cm×Int×Int×Int)(ev:Ending)(w':World):Prop:=∃(A:OA)(n c:Nat),ev=.returned (parV A n c o)/\n=o.1.length/\aE w' w.heap.size 47 4 A n c (eI o.1)/\w.grownBy w' none
theorem vF{n:Nat}{s:Sn}{out:List Cm}(hn:s.l.length<n)(he:s.e≠0):dO n s out=([],s.p,s.q,s.e):=by
 match n with
 | n+1=>unfold dO;rw[if_pos he]
theorem mY{n:Nat}{s:Sn}{out:List Cm}(hn:s.l.length<n)(he:s.e=0)(hl:s.l=[]):dO n s out=(out,0,0,0):=by
 match n with
 | n+1=>unfold dO;rw[if_neg (by simp[he]),if_pos hl]
theorem mZ{n:Nat}{s:Sn}{out:List Cm}(hn:s.l.length<n)(he:s.e=0)(hl:s.l≠[])(hk:bU (s.l.takeWhile bO)=0):dO n s out=([],s.p,s.q,30):=by
 match n with
 | n+1=>unfold dO;rw[if_neg (by simp[he]),if_neg hl,if_pos hk]
theorem oP {n:Nat} {s:Sn} {out:List Cm} (hn:s.l.length<n) (he:s.e=0) (hl:s.l≠[]) (hk:bU (s.l.takeWhile bO)≠0):∃ m,(gQ (bU (s.l.takeWhile bO)) (skN (s.l.takeWhile bO).length s)).2.l.length<m/\m<n/\(gQ (bU (s.l.takeWhile bO)) (skN (s.l.takeWhile bO).length s)).2.l.length<s.l.length ∧
    dO n s out=dO m (gQ (bU (s.l.takeWhile bO)) (skN (s.l.takeWhile bO).length s)).2 (out++[(gQ (bU (s.l.takeWhile bO)) (skN (s.l.takeWhile bO).length s)).1]):=by
  match n with
  | n + 1 =>
    obtain⟨k1,k2⟩:=sV hk;have kl:0<(s.l.takeWhile bO).length:=by
      rcases Nat.eq_zero_or_pos (s.l.takeWhile bO).length with hz | hz
      · rw[List.length_eq_zero_iff]at hz;rw[hz]at k1;exact absurd k2 (sU (by rw[hz];exact k1.symm))
      · exact hz
    have ll:=yI (bU (s.l.takeWhile bO)) (skN (s.l.takeWhile bO).length s);rw[eH,List.length_drop]at ll;have lp:=List.length_pos_iff.2 hl;refine⟨n,by omega,by omega,by omega,?_⟩
    conv=>lhs;unfold dO
    rw[if_neg (by simp[he]),if_neg hl,if_neg hk]
theorem dN {w:World} {l:List Int} (hl:l.length<=2^30) (hb:bB l):Calls P 13 #[iU l] w (ParO w (eS l)):=by
  apply vc13;dsimp only[VC13,rt,Wt,Br,Bb,Rd,Ap,Ws,cI,nb,iq];obtain⟨W0,CK,g0,b0⟩:=bP w #[.int .i64 0,.int .i64 0] 37;rw[← CK];have z0:=g0.size;have lt0:=(Array.getElem?_eq_some_iff.1 b0).1;refine(sA hl hb).mono fun ev w1 hh=>?_;obtain⟨rfl,hs,g1⟩:=hh;refine⟨_,rfl,(eP hs).mono fun ev w2 hh=>?_⟩;obtain⟨rfl,rfl⟩:=hh;have b1:=aC b0 g1;refine⟨_,_,rfl,fun m A n c more w'=>∃(q:Nat)(σ:Sn)(out:List Cm),Sq w' W0.heap.size σ/\aE w' w.heap.size 47 4 A n c (eI out)/\n=out.length/\w'.heap[w.heap.size]?=some (.cells #[.int .i64 0,.int .i64 0] 37 (0,0))/\w.grownBy w' none/\dO q σ out=eS l/\σ.l.length<q/\out.length+σ.l.length<=l.length/\more=(jA σ).2/\m=q,⟨_,l.length+1,_,[],hs,aE.nil _ _ _ _,rfl,b1,aB g0 g1,rfl,by simp only;omega,by simp,rfl,rfl⟩,?_⟩;rintro m A n c more w2 ⟨q,σ,out,h2,ho,rfl,b2,g2,hp,hq,ht,rfl,rfl⟩;have z2:=g2.size;refine⟨fun hm=>?_,fun hm=>?_⟩
  · have D6 :σ.e=0/\σ.l≠[]:=by
      unfold jA at hm;split at hm
      · cases hm
      · rename_i he;exact⟨Decidable.not_not.1 he,of_decide_eq_true hm⟩
    obtain⟨he,Cg⟩:=D6;refine(iY h2).mono fun ev w3 hh=>?_;obtain⟨rfl,g3⟩:=hh;obtain⟨W4,HV,g4,b4⟩:=bP w3 #[.int .i64 0,.int .i64 0] 37;rw[← HV];have z3:=g3.size;have z4:=g4.size;have lt3:=(Array.getElem?_eq_some_iff.1 b4).1;obtain⟨V,hV,v1,v2,f⟩:=qO b4 (.int .i64 σ.p) (.int .i64 σ.q);refine⟨_,_,rfl,f.1,f.2.1,f.2.2.1,f.2.2.2,?_⟩;rw[← hV];have Ij:=aB g3 g4;have Du:=h2.lt;have gV:w2.grownBy V none:=((Kp.of_none Ij).then v2 (fun k hk e=>e)).grown (fun k hk e=>by omega);have HW:=h2.kept gV;refine(rU HW he).mono fun ev w5 hh=>?_;obtain⟨rfl,h5,k5⟩:=hh;refine⟨_,rfl,(vO (fun x hx=>h2.2.2.2 x (List.takeWhile_subset _ hx))).mono fun ev w6 hh=>?_⟩;obtain⟨rfl,g6⟩:=hh;have h6:=h5.kept g6;have k26:Kp w2 w6 (fun k=>k=W0.heap.size):=((Kp.of_none gV).then k5 (fun k hk e=>e)).then (Kp.of_none g6 (S:=fun _=>False)) (fun k hk e=>e.elim);have z5:=k5.size;have zV:=v2.size;have Gv:∀ {g:Nat} {o:Obj},g≠W0.heap.size->V.heap[g]?=some o->w6.heap[g]?=some o:=fun {g o} hg ho=>by
      exact aC (by rw[k5.block g (Array.getElem?_eq_some_iff.1 ho).1 hg];exact ho) g6
    have a6:=Gv (g:=w3.heap.size) (by omega) v1;have p6:w6.heap[w.heap.size]?=some (.cells #[.int .i64 0,.int .i64 0] 37 (0,0)):=Gv (by omega) (aC b2 gV);have EF:w.grownBy w6 none:=((Kp.of_none g2).then k26 (fun k hk e=>e)).grown (fun k hk e=>by omega);refine⟨_,rfl,fun hk=>?_,fun hk=>?_⟩
    · obtain⟨U,hU,u1,u2,f⟩:=qO (W:=w6.drew) p6 (.int .i64 σ.p) (.int .i64 σ.q);refine⟨_,aA (w:=w6.drew) a6 0,_,aA (w:=w6.drew) a6 1,f.1,f.2.1,f.2.2.1,f.2.2.2,?_⟩;rw[← hU];refine⟨_,aA u1 0,_,aA u1 1,?_⟩;rw[mZ hq he Cg hk]at hp;rw[← hp];exact⟨none,0,0,rfl,rfl,aE.nil _ _ _ _,((Kp.of_none (aK EF)).then u2 (fun k hk e=>e)).grown (fun k hk e=>by omega)⟩
    · obtain⟨q',p1,p2,p3,p4⟩:=oP (out:=out) hq he Cg hk;refine(rV h6).mono fun ev w7 hh=>?_;obtain⟨rfl,h7,k7⟩:=hh;generalize hL:gQ (bU (σ.l.takeWhile bO)) (skN (σ.l.takeWhile bO).length σ)=L at p1 p3 p4 h7 ⊢;have k27:=k26.then k7 (fun k hk e=>e);have z7:=k27.size;have p7:w7.heap[w.heap.size]?=some (.cells #[.int .i64 0,.int .i64 0] 37 (0,0)):=by rw[k7.block _ (Array.getElem?_eq_some_iff.1 p6).1 (by show ¬ w.heap.size=_;omega)];exact p6
      have o7:aE w7 w.heap.size 47 4 A out.length c (eI out):=ho.kp k27 (fun k hk e=>by
        subst e;obtain⟨cur,Cr⟩:=ho.block_type _ hk;rw[h2.1]at Cr;cases Cr)
      obtain⟨W8,HU,g8,b8⟩:=bP w7 #[.int .i64 L.1.k,.int .i64 L.1.t,.int .u64 L.1.u,.int .u64 L.1.v] 47;refine⟨_,_,_,_,rfl,?_⟩;rw[← HU];have z8:=g8.size;obtain⟨A',n',c',w9,Cp,o9,g9,rfl⟩:=iM (m:=1) (d:=1) (o7.kept g8) (pY b8) rfl (fun h=>by cases h) (by omega) (by omega);have far:∀ k,(Value.slice A out.length c).ownBlock=some k->w.heap.size<k/\k≠W0.heap.size:=fun k hk=>by
        have h1:=o7.block_ge k hk;obtain⟨cur,Cr⟩:=o7.block_type k hk;refine⟨?_,fun e=>?_⟩
        · rcases Nat.lt_or_ge w.heap.size k with h | h
          · exact h
          · obtain rfl:k=w.heap.size:=by omega
            rw[p7]at Cr;cases Cr
        · subst e;rw[h7.1]at Cr;cases Cr
      have K9:Kp w7 w9 (fun k=>some k=(Value.slice A out.length c).ownBlock):=(Kp.of_none g8).then (Kp.of_grown g9) (fun k hk e=>e);have h9:Sq w9 W0.heap.size L.2:=h7.kp K9 (fun e=>(far _ e.symm).2 rfl);have p9:w9.heap[w.heap.size]?=some (.cells #[.int .i64 0,.int .i64 0] 37 (0,0)):=by rw[K9.block _ (Array.getElem?_eq_some_iff.1 p7).1 (fun e=>by have:=(far _ e.symm).1;omega)];exact p7
      have EY:w.grownBy w9 none:=((Kp.of_none g2 (S:=fun k=>k=W0.heap.size∨w.heap.size<k)).then k27 (fun k hk e=>.inl e) |>.then K9 (fun k hk e=>.inr (far _ e.symm).1)).grown (fun k hk e=>by omega);refine⟨_,_,_,_,Cp,(eP h9).mono fun ev EH hh=>?_⟩;obtain⟨rfl,rfl⟩:=hh;refine⟨_,_,rfl,q',p2,q',L.2,out++[L.1],h9,o9,by simp,p9,EY,by rw[← p4];exact hp,p1,by simp;omega,rfl,rfl⟩
  · refine(sB h2).mono fun ev w3 hh=>?_;obtain⟨rfl,rfl⟩:=hh;have lt:=(Array.getElem?_eq_some_iff.1 b2).1;refine⟨_,rfl,fun he=>?_,fun he=>?_⟩
    · refine(iY h2).mono fun ev w4 hh=>?_;obtain⟨rfl,g4⟩:=hh;obtain⟨U,hU,u1,u2,f⟩:=qO (aC b2 g4) (.int .i64 σ.p) (.int .i64 σ.q);refine⟨_,_,rfl,f.1,f.2.1,f.2.2.1,f.2.2.2,?_⟩;rw[← hU];refine⟨_,aA u1 0,_,aA u1 1,?_⟩;rw[vF hq he]at hp;rw[← hp];exact⟨none,0,0,rfl,rfl,aE.nil _ _ _ _,((Kp.of_none (aB g2 g4)).then u2 (fun k hk e=>e)).grown (fun k hk e=>by omega)⟩
    · have he:=Decidable.not_not.1 he;have C3:σ.l=[]:=by
        unfold jA at hm;rw[if_neg (by simp[he])]at hm;simpa using hm
      obtain⟨U,hU,u1,u2,f⟩:=qO b2 (.int .i64 0) (.int .i64 0);refine⟨f.1,f.2.1,f.2.2.1,f.2.2.2,?_⟩;rw[← hU];refine⟨_,aA u1 0,_,aA u1 1,?_⟩;rw[mY hq he C3]at hp;rw[← hp];refine⟨A,_,c,rfl,rfl,ho.kp u2 (fun k hk e=>?_),((Kp.of_none g2).then u2 (fun k hk e=>e)).grown (fun k hk e=>by omega)⟩;obtain⟨cur,Cr⟩:=ho.block_type _ hk;rw[e,b2]at Cr;cases Cr
end Go.Proofs.YtdlomlmijdifbaaGreatDoor

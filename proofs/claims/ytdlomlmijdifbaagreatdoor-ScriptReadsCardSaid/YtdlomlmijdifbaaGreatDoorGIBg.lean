/- Own texts, packed: I3, I4, I5, I6, I7, I8, I9, I10. -/
import Derived.Test.YtdlomlmijdifbaaGreatDoorGIAg
import Derived.Test.YtdlomlmijdifbaaGreatDoorGIXg
import Derived.Test.YtdlomlmijdifbaaGreatDoorGIg
import Derived.Test.YtdlomlmijdifbaaGreatDoorGCg
import Derived.Maps.Keyed
import Derived.Laws.Concat
set_option linter.unusedVariables false
set_option linter.unusedSimpArgs false
set_option maxHeartbeats 4000000
set_option maxRecDepth 100000
namespace Go.Proofs.YtdlomlmijdifbaaGreatDoor
open Go Go.V Go.RowKit
theorem lW{w:World}{l p:List Int}(hl:aN l)(hp:aN p):Calls P 122 #[.string (aO l),.string (aO p)] w fun ev w'=>ev=.returned (.bool (p.isPrefixOf l))/\w'=w:=by
 apply vc122;dsimp only[VC122,cB];apply vc152;dsimp only[VC152,rb,Br,Eg];rw[aK,aK];have tp:((p.length:Nat):Int).toNat=p.length:=by omega
 refine⟨fun h=>⟨⟨by omega,by omega⟩,_,fun w=>iE _ _ _ _ w,_,rfl,?_,rfl⟩,fun h=>⟨false,rfl,?_,rfl⟩⟩
 ·rw[tp,kA,List.drop_zero];congr 2;rw[Bool.eq_iff_iff,decide_eq_true_iff,List.isPrefixOf_iff_prefix,List.prefix_iff_eq_take];constructor
  ·intro h;exact(mO (fun x hx=>hl x (List.mem_of_mem_take hx)) hp h).symm
  ·intro h;rw[← h]
 ·congr 2;rw[eq_comm,Bool.eq_false_iff];intro h';rw[List.isPrefixOf_iff_prefix]at h';have:=h'.length_le;omega
def Dc(s:Sn):Prop:=(0<=s.p/\s.p+s.l.length<=2^40)/\(0<=s.q/\s.q+s.l.length<=2^40)/\aN s.l
theorem Dc.skN:∀ {n:Nat} {s:Sn},Dc s->Dc (skN n s)
 | 0,s,h=>h
 | n+1,⟨[],p,q,e⟩,h=>h
 | n+1,⟨x ::r,p,q,e⟩,h=>by
  obtain⟨h1,h2,h3⟩:=h;simp only[List.length_cons]at h1 h2;refine Dc.skN (n:=n) (s:=⟨r,if x=10 then p+1 else p,if x=10 then 1 else q+1,e⟩) ⟨?_,?_,fun y hy=>h3 y (by simp[hy])⟩
  ·simp only;split <;>omega
  ·simp only;split <;>omega
theorem Dc.fail{e:Int}{s:Sn}(h:Dc s):Dc (cZ e s):=by
 unfold cZ;split <;>exact h
theorem yE{i:Nat}{s:Sn}(h:i<s.l.length):skN (i+1) s=⟨s.l.drop (i+1),if s.l[i]=10 then(skN i s).p+1 else(skN i s).p,if s.l[i]=10 then 1 else(skN i s).q+1,s.e⟩:=by
 have h1:=gK i s;have h2:=vH i s;rw[← tH i 1 s];generalize skN i s=z at h1 h2 ⊢;obtain⟨l,p,q,e⟩:=z;simp only at h1 h2;rw[List.drop_eq_getElem_cons h]at h1;subst h1;subst h2;rfl
def Sq(w:World)(b:Nat)(s:Sn):Prop:=w.heap[b]?=some (.cells #[.string (aO s.l),.int .i64 s.p,.int .i64 s.q,.int .i64 s.e] 142 (0,0))/\Dc s
theorem Sq.kp{w w':World}{S:Nat->Prop}{b:Nat}{s:Sn}(h:Sq w b s)(hk:Kp w w' S)(hS:¬ S b):Sq w' b s :=
 ⟨by rw[hk.block b (Array.getElem?_eq_some_iff.1 h.1).1 hS];exact h.1,h.2⟩
theorem Sq.kept{w w':World}{b:Nat}{s:Sn}(h:Sq w b s)(hg:w.grownBy w' none):Sq w' b s:=h.kp (S:=fun _=>False) (Kp.of_none hg) (fun h=>h)
theorem Sq.lt{w:World}{b:Nat}{s:Sn}(h:Sq w b s):b<w.heap.size:=(Array.getElem?_eq_some_iff.1 h.1).1
theorem Sq.err{w:World}{b:Nat}{s:Sn}(h:Sq w b s):w.cell? ⟨b,3,none⟩=some (.int .i64 s.e):=aA h.1 3
theorem Sq.str{w:World}{b:Nat}{s:Sn}(h:Sq w b s):w.cell? ⟨b,0,none⟩=some (.string (aO s.l)):=aA h.1 0
abbrev mF(b:Nat):Value:=.pointer (some ⟨b,0,none⟩)
theorem vJ{w:World}{l:List Int}(hl:l.length<=2^30)(hb:aN l):Calls P 30 #[.string (aO l)] w fun ev w'=>ev=.returned (mF w.heap.size)/\Sq w' w.heap.size ⟨l,1,1,0⟩/\w.grownBy w' none:=by
 apply vc30;dsimp only[VC30,nb,iq];exact⟨rfl,⟨heap_alloc_new w _,⟨by simp only;omega,by simp only;omega⟩,⟨by simp only;omega,by simp only;omega⟩,hb⟩,World.grownBy_alloc w _ none⟩
theorem vK{w:World}{b:Nat}{s:Sn}(h:Sq w b s):Calls P 36 #[mF b] w fun ev w'=>ev=.returned (.int .i64 s.e)/\w'=w:=by
 apply vc36;dsimp only[VC36,Rd,iq];refine⟨_,rfl,s.e,by rw[aJ];exact h.err,rfl,rfl⟩
theorem dR{w:World}{b:Nat}{s:Sn}{f:Int}(h:Sq w b s):Calls P 91 #[mF b,.int .i64 f] w fun ev w'=>ev=.returned (.tuple #[])/\Sq w' b (cZ f s)/\Kp w w' (fun k=>k=b):=by
 apply vc91;dsimp only[VC91,rt,Wt,Br,Rd,iq];obtain⟨h1,h2⟩:=h;refine⟨_,rfl,s.e,by rw[aJ];exact aA h1 3,fun h=>⟨_,rfl,?_⟩,fun h=>⟨rfl,?_,Kp.refl w _⟩⟩
 ·rw[aJ];have:=aH h1 3 (.int .i64 f);refine⟨⟨_,aA h1 3⟩,aC h1 3,rfl,⟨?_,h2.fail⟩,cH (Kp.refl w _) rfl⟩;unfold cZ;rw[if_pos h];simpa using this
 ·unfold cZ;rw[if_neg h];exact⟨h1,h2⟩
theorem lK{w:World}{b n:Nat}{s:Sn}(h:Sq w b s)(hn:n<=s.l.length):Calls P 92 #[mF b,.int .i64 (n:Int)] w fun ev w'=>ev=.returned (.tuple #[])/\Sq w' b (skN n s)/\Kp w w' (fun k=>k=b):=by
 apply vc92;dsimp only[VC92,rt,Wt,Br,Rd,Ws,iq]
 try simp only[aI]
 obtain⟨h1,h2⟩:=h;refine⟨fun m x w'=>∃ i:Nat,x=(i:Int)/\i<=n/\m=n-i/\Kp w w' (fun k=>k=b)/\w'.heap[b]?=some (.cells #[.string (aO s.l),.int .i64 (skN i s).p,.int .i64 (skN i s).q,.int .i64 s.e] 142 (0,0)),⟨_,0,rfl,by omega,rfl,Kp.refl w _,h1⟩,?_⟩;rintro m x w1 ⟨i,rfl,hi,rfl,k1,h1⟩;have ti:(i:Int).toNat=i:=by omega
 have tn:(n:Int).toNat=n:=by omega
 rw[ti,tn];have EZ:=aK s.l;have Ht:=(h2.skN (n:=i));have KC:=h2.1;have DO:(skN i s).l.length=s.l.length-i:=by rw[gK,List.length_drop]
 obtain⟨hp,hq,_⟩:=Ht;rw[DO]at hp hq;refine⟨fun DL=>⟨_,rfl,_,aA h1 0,⟨by omega,by rw[EZ];omega⟩,fun Ey=>?_,fun Ey=>?_⟩,fun DR=>?_⟩
 ·rw[cP h2.2.2 (by omega)]at Ey;have e1:=yE (i:=i) (s:=s) (by omega);rw[if_pos Ey,if_pos Ey]at e1;have s1:=aH h1 1 (.int .i64 ((skN i s).p+1));have s2:=aH s1 2 (.int .i64 1);refine⟨_,rfl,?_⟩;rw[aJ];refine⟨(skN i s).p,aA h1 1,⟨by omega,by omega⟩,_,rfl,?_⟩;rw[aJ,cV];refine⟨⟨_,aA h1 1⟩,aC h1 1,?_⟩;refine⟨⟨_,aA s1 2⟩,aC s1 2,⟨by omega,by omega⟩,_,?_,i+1,by omega,by omega,rfl,cH (cH k1 rfl) rfl,by rw[e1];simpa using s2⟩;omega
 ·rw[cP h2.2.2 (by omega)]at Ey;have e1:=yE (i:=i) (s:=s) (by omega);rw[if_neg Ey,if_neg Ey]at e1;have s2:=aH h1 2 (.int .i64 ((skN i s).q+1));refine⟨_,rfl,(skN i s).q,by rw[aJ,cV];exact aA h1 2,⟨by omega,by omega⟩,_,rfl,?_⟩;rw[aJ,cV];refine⟨⟨_,aA h1 2⟩,aC h1 2,⟨by omega,by omega⟩,_,?_,i+1,by omega,by omega,rfl,cH k1 rfl,by rw[e1];simpa using s2⟩;omega
 ·have:i=n:=by omega
  subst this;have s0:=aH h1 0 (.string (aO (s.l.drop i)));refine⟨_,rfl,_,aA h1 0,⟨by omega,by rw[EZ];omega⟩,_,rfl,⟨_,aA h1 0⟩,aC h1 0,trivial,?_⟩;rw[kA,EZ,List.take_length];refine⟨⟨?_,h2.skN⟩,cH k1 rfl⟩;rw[gK,vH];simpa using s0
theorem qN{w:World}{x:Int}:Calls P 90 #[.int .u8 x] w fun ev w'=>ev=.returned (.bool (bQ x))/\w'=w:=by
 apply vc90;dsimp only[VC90,rb,Br];unfold bQ;refine⟨fun h=>⟨?_,rfl⟩,fun h=>⟨?_,rfl⟩⟩
 ·congr 2;rw[decide_eq_decide];omega
 ·congr 2;rw[eq_comm,decide_eq_false_iff_not];omega
theorem tI{w:World}{b:Nat}{p:List Int}{s:Sn}(h:Sq w b s)(hp:aN p):Calls P 89 #[mF b,.string (aO p)] w fun ev w'=>ev=.returned (.bool (bF p s).1)/\Sq w' b (bF p s).2/\Kp w w' (fun k=>k=b):=by
 apply vc89;dsimp only[VC89,rb,Br,Bb,Rd,cB,cU,iq];unfold bF;refine⟨_,rfl,s.e,by rw[aJ];exact h.err,fun he=>?_,fun he=>⟨_,rfl,_,h.str,?_⟩⟩
 ·rw[if_pos he];exact⟨rfl,h,Kp.refl w _⟩
 rw[if_neg he];refine(lW h.2.2.2 hp).mono fun ev w1 hh=>?_;obtain⟨rfl,rfl⟩:=hh;refine⟨_,rfl,fun hi=>?_,fun hi=>⟨_,rfl,_,h.str,?_⟩⟩
 ·have hi:p.isPrefixOf s.l=true:=hi;rw[if_pos hi,aK];refine(lK h (List.isPrefixOf_iff_prefix.1 hi).length_le).mono fun ev w2 hh=>?_;obtain⟨rfl,h2,k2⟩:=hh;exact⟨rfl,rfl,h2,k2⟩
 ·have hi:p.isPrefixOf s.l=false:=hi;rw[if_neg (by rw[hi];decide)];refine(lW hp h.2.2.2).mono fun ev w1 hh=>?_;obtain⟨rfl,rfl⟩:=hh;refine⟨_,rfl,fun hj=>?_,fun hj=>?_⟩
  ·have hj:s.l.isPrefixOf p=true:=hj;rw[hj];refine(dR h).mono fun ev w2 hh=>?_;obtain⟨rfl,h2,k2⟩:=hh;exact⟨rfl,rfl,h2,k2⟩
  ·have hj:s.l.isPrefixOf p=false:=hj;rw[hj];refine(dR h).mono fun ev w2 hh=>?_;obtain⟨rfl,h2,k2⟩:=hh;exact⟨rfl,rfl,h2,k2⟩
theorem Ct{w:World}{x:Int}(hx:0<=x/\x<=255):Sem.run P (Go.convert 22 9 (.slice (some ⟨w.heap.size,0,none⟩) 1 1)) (w.alloc (.cells #[.int .u8 x] 5))=.ok (.string (aO [x])) (w.alloc (.cells #[.int .u8 x] 5)):=by
 refine fI (l:=[x]) (fun j u hj=>?_) rfl
 match j,hj with
 | 0,hj=>simp at hj;subst hj;exact⟨_,rfl,aA (heap_alloc_new w _) 0⟩
theorem iT{w:World}{b:Nat}{s:Sn}{x:Int}(h:Sq w b s)(hx:0<=x/\x<=255):Calls P 63 #[mF b,.int .u8 x] w fun ev w'=>ev=.returned (.bool (bF [x] s).1)/\Sq w' b (bF [x] s).2/\Kp w w' (fun k=>k=b):=by
 apply vc63;dsimp only[VC63,cB,nb];have g0:=World.grownBy_alloc w (.cells #[.int .u8 x] 5) none;refine⟨_,Ct hx,(tI (p:=[x]) (h.kept g0) (fun y hy=>by simp at hy;subst hy;exact hx)).mono fun ev w1 hh=>?_⟩;obtain⟨rfl,h1,k1⟩:=hh;exact⟨_,rfl,rfl,h1,(Kp.of_none g0).then k1 (fun _ _ e=>e)⟩
theorem tE{l:List Int}:decide (aO l=⟨#[]⟩)=decide (l=[]):=by
 rw[decide_eq_decide];constructor
 ·intro h;have:=congrArg ByteArray.size h;rw[aK]at this;exact List.length_eq_zero_iff.1 this
 ·rintro rfl;rfl
def fW(s:Sn):Int×Bool:=if s.e≠0 then(0,false) else(s.l.headD 0,decide (s.l≠[]))
theorem fQ{w:World}{b:Nat}{s:Sn}(h:Sq w b s):Calls P 31 #[mF b] w fun ev w'=>ev=.returned (.tuple #[.int .u8 (fW s).1,.bool (fW s).2])/\w'=w:=by
 apply vc31;dsimp only[VC31,rt,Br,Bb,Rd,Eg];unfold fW;refine⟨_,rfl,s.e,by rw[aJ];exact h.err,fun he=>?_,fun he=>⟨_,rfl,_,h.str,_,fun w=>iE _ _ _ _ w,?_⟩⟩
 ·rw[if_pos he];exact⟨rfl,rfl⟩
 rw[if_neg he,tE];have hb:=h.2.2.2;have Gs:=h.str;cases hl:s.l with
 | nil=>exact⟨fun _=>⟨rfl,rfl⟩,fun h=>by simp at h⟩
 | cons x r =>
  rw[hl]at Gs hb;refine⟨fun h=>by simp at h,fun _=>⟨_,rfl,_,Gs,⟨by omega,by rw[aK];simp⟩,?_,rfl⟩⟩;rw[cP hb (i:=0) (by simp)];simp
theorem kI{w:World}{b:Nat}{s:Sn}(h:Sq w b s):Calls P 32 #[mF b] w fun ev w'=>ev=.returned (.agg #[.int .i64 s.p,.int .i64 s.q])/\w.grownBy w' none:=by
 apply vc32;dsimp only[VC32,Wt,Rd,Ws,nb,iq];obtain⟨h1,h2⟩:=h;have g0:=World.grownBy_alloc w (.cells #[.int .i64 0,.int .i64 0] 37) none;have b0:=heap_alloc_new w (.cells #[.int .i64 0,.int .i64 0] 37);have s1:=aH b0 0 (.int .i64 s.p);have s2:=aH s1 1 (.int .i64 s.q);have J3:=aE h1 g0;have k2:=cH (S:=fun k=>w.heap.size<=k) (j:=1) (u:=.int .i64 s.q) (cH (j:=0) (u:=.int .i64 s.p) (Kp.of_none g0) (Nat.le_refl _)) (Nat.le_refl _);refine⟨_,rfl,s.p,by rw[aJ];exact aA J3 1,s.q,by rw[aJ,cV];exact aA J3 2,⟨_,aA b0 0⟩,aC b0 0,⟨_,aA s1 1⟩,aC s1 1,s.p,aA s2 0,s.q,aA s2 1,rfl,?_⟩;exact k2.grown (fun k hk h=>by omega)
theorem iS(f:Int->Bool):∀ {l:List Int} {i:Nat},i<=(l.takeWhile f).length->(h:i<l.length)->f l[i]=decide (i<(l.takeWhile f).length)
 | x ::r,0,_,_=>by
  rw[List.takeWhile_cons];show f x=_;cases hx:f x <;>simp
 | x ::r,i+1,hi,h=>by
  rw[List.takeWhile_cons]at hi ⊢;cases hx:f x with
  | false=>rw[hx]at hi;simp at hi
  | true =>
   rw[hx]at hi;simp only[if_true,List.length_cons]at hi ⊢;have:=iS f (l:=r) (i:=i) (by omega) (by simpa using h);simp only[List.getElem_cons_succ];rw[this];simp
theorem iB(f:Int->Bool)(l:List Int):(l.takeWhile f).length<=l.length:=by
 have:=congrArg List.length (fC f l);rw[List.length_append]at this;omega
theorem vF{f:Int->Bool}{l:List Int}{i:Nat}(h:i<(l.takeWhile f).length):(l.takeWhile f)[i]=l[i]'(Nat.lt_of_lt_of_le h (iB f l)):=by
 have:=congrArg (fun z=>z[i]?) (fC f l);simp only[List.getElem?_append_left h]at this;rw[List.getElem?_eq_getElem h,List.getElem?_eq_getElem (Nat.lt_of_lt_of_le h (iB f l))]at this;exact(Option.some.inj this).symm
theorem sD{m v:Int}{d:List Int}{i:Nat}(h:i<d.length):qR m v (d.drop i)=if m<d[i]-48∨(m-(d[i]-48)) / 10<v then none else qR m (v*10+(d[i]-48)) (d.drop (i+1)):=by
 rw[List.drop_eq_getElem_cons h];rfl
theorem pA {w:World} {b:Nat} {s:Sn} {most:Int} (h:Sq w b s) (hm:0<=most/\most<=18446744073709551615):Calls P 65 #[mF b,.int .u64 most] w fun ev w'=>ev=.returned (.int .u64 (cW most s).1)/\Sq w' b (cW most s).2/\Kp w w' (fun k=>k=b):=by
  apply vc65;dsimp only[VC65,Br,Bb,Rd,Eg,cB,cU,iq]
  try simp only[aI]
  refine⟨_,rfl,s.e,by rw[aJ];exact h.err,fun he=>?_,fun he=>?_⟩
  · unfold cW;rw[if_pos he];exact⟨rfl,h,Kp.refl w _⟩
  obtain⟨D,hD⟩:∃ D,D=(s.l.takeWhile bQ).length:=⟨_,rfl⟩;have G9:D<=s.l.length:=by rw[hD];exact iB _ _
  have hq:=h.2.2.2;have Ht:=h.2.1;have Gf:s.l.length<=2^40:=by have:=h.2.1;omega
  refine⟨fun m n w'=>w'=w/\∃ i:Nat,n=(i:Int)/\i<=D/\m=D-i,⟨_,rfl,0,rfl,by omega,rfl⟩,?_⟩;rintro m n w1 ⟨DU,i,rfl,hi,rfl⟩;obtain rfl:w=w1:=DU.symm;have ti:(i:Int).toNat=i:=by omega
  refine⟨fun x w'=>w'=w/\x=decide (i<D),⟨_,rfl,_,h.str,?_⟩,?_⟩
  · rw[aK,ti];refine⟨fun DL=>⟨_,rfl,_,h.str,⟨by omega,by rw[aK];omega⟩,?_⟩,fun DL=>⟨rfl,?_⟩⟩
    · refine qN.mono fun ev w2 hh=>?_;obtain⟨rfl,rfl⟩:=hh;refine⟨_,rfl,rfl,?_⟩;rw[cP hq (by omega),hD];exact iS bQ (by omega) (by omega)
    · symm;rw[decide_eq_false_iff_not];omega
  rintro x w1 ⟨DU,rfl⟩;obtain rfl:w=w1:=DU.symm;refine⟨fun hx=>?_,fun hx=>?_⟩
  · have hx:i<D:=of_decide_eq_true hx;exact⟨⟨by omega,by omega⟩,D-(i+1),by omega,rfl,i+1,by omega,by omega,rfl⟩
  have hx:¬ i<D:=of_decide_eq_false hx;obtain rfl:i=D:=by omega
  -- what the switch makes of it
  obtain⟨sw,ED⟩:∃ sw,sw=(if s.l=[] then cZ 20 s else if s.l.takeWhile bQ=[]∨1<(s.l.takeWhile bQ).length/\s.l.head?=some 48 then cZ 21 s else s):=⟨_,rfl⟩;have LV:s.e=0:=Decidable.not_not.1 he;have Ee:s.l.takeWhile bQ=[]↔i=0:=by rw[hD,List.length_eq_zero_iff]
  refine⟨fun w'=>Sq w' b sw/\Kp w w' (fun k=>k=b),⟨_,rfl,_,h.str,_,fun w=>iE _ _ _ _ w,?_⟩,?_⟩
  · rw[tE];refine⟨fun hn=>?_,fun hn=>?_⟩
    · have hn:s.l=[]:=of_decide_eq_true hn;refine(dR h).mono fun ev w2 hh=>?_;obtain⟨rfl,h2,k2⟩:=hh;rw[ED,if_pos hn];exact⟨rfl,h2,k2⟩
    have hn:¬ s.l=[]:=of_decide_eq_false hn;rw[if_neg hn]at ED;have Ed:=List.length_pos_iff.2 hn;refine⟨fun h0=>?_,fun h0=>⟨fun h1=>⟨_,rfl,_,h.str,⟨by omega,by rw[aK];omega⟩,?_⟩,fun h1=>?_⟩⟩
    · refine(dR h).mono fun ev w2 hh=>?_;obtain⟨rfl,h2,k2⟩:=hh;rw[ED,if_pos (.inl (Ee.2 (by omega)))];exact⟨rfl,h2,k2⟩
    · have GM:s.l.head?=some s.l[0]:=by rw[List.head?_eq_getElem?,List.getElem?_eq_getElem Ed]
      rw[cP hq Ed];refine⟨fun IM=>?_,fun IM=>?_⟩
      · refine(dR h).mono fun ev w2 hh=>?_;obtain⟨rfl,h2,k2⟩:=hh;rw[ED,if_pos (.inr ⟨by omega,by rw[GM,IM]⟩)];exact⟨rfl,h2,k2⟩
      · rw[ED,if_neg (by
          rintro(hz | ⟨_,hz⟩)
          · exact h0 (by have:=Ee.1 hz;omega)
          · rw[GM]at hz;exact IM (Option.some.inj hz))]
        exact⟨h,Kp.refl w _⟩
    · rw[ED,if_neg (by
        rintro(hz | ⟨hz,_⟩)
        · exact h0 (by have:=Ee.1 hz;omega)
        · omega)]
      exact⟨h,Kp.refl w _⟩
  rintro w1 ⟨h1,k1⟩
  -- the digits, one by one
  refine⟨fun m v n w'=>∃(σ:Sn)(j:Nat),n=(j:Int)/\j<=i/\m=i-j/\Sq w' b σ/\Kp w w' (fun k=>k=b)/\((σ=s/\(0<=v/\v<=most)/\cW most s=(match qR most v ((s.l.takeWhile bQ).drop j)with | none=>(0,cZ 22 s) | some v=>(v,skN i s)))∨(σ.e≠0/\cW most s=(0,σ))),⟨_,sw,0,rfl,by omega,rfl,h1,k1,?_⟩,?_⟩
  · by_cases hn:s.l=[]
    · rw[if_pos hn]at ED;refine .inr ⟨by rw[ED];exact jA (by decide),?_⟩;unfold cW;rw[if_neg he,if_pos hn,ED]
    rw[if_neg hn]at ED;by_cases hc:s.l.takeWhile bQ=[]∨1<(s.l.takeWhile bQ).length/\s.l.head?=some 48
    · rw[if_pos hc]at ED;refine .inr ⟨by rw[ED];exact jA (by decide),?_⟩;unfold cW;rw[if_neg he,if_neg hn,if_pos hc,ED]
    · rw[if_neg hc]at ED;refine .inl ⟨ED,⟨by omega,by omega⟩,?_⟩;unfold cW;rw[if_neg he,if_neg hn,if_neg hc,List.drop_zero,hD];rfl
  rintro m v n w2 ⟨σ,j,rfl,hj,rfl,h2,k2,hσ⟩;have tj:(j:Int).toNat=j:=by omega
  rw[tj];refine⟨fun x w'=>w'=w2/\x=decide (j<i/\σ.e=0),⟨fun DL=>⟨_,rfl,σ.e,by rw[aJ];exact h2.err,rfl,?_⟩,fun DL=>⟨rfl,?_⟩⟩,?_⟩
  · rw[decide_eq_decide];exact⟨fun h=>⟨by omega,h⟩,fun h=>h.2⟩
  · symm;rw[decide_eq_false_iff_not];omega
  rintro x w3 ⟨EJ,rfl⟩;obtain rfl:w2=w3:=EJ.symm;refine⟨fun hx=>?_,fun hx=>?_⟩
  · obtain⟨Ka,Hi⟩:=of_decide_eq_true hx;obtain⟨rfl,hv,DM⟩:σ=s/\_:=hσ.resolve_right fun h=>h.1 Hi;have EB:j<σ.l.length:=by omega
    have GJ:j<(σ.l.takeWhile bQ).length:=by omega
    have D6:bQ σ.l[j]=true:=by rw[iS bQ (by omega) EB,decide_eq_true_iff];omega
    unfold bQ at D6;simp only[decide_eq_true_eq]at D6;rw[sD GJ,vF GJ]at DM;refine⟨_,rfl,_,h2.str,⟨by omega,by rw[aK];omega⟩,?_⟩;rw[cP hq EB];generalize σ.l[j]=y at D6 DM ⊢;refine⟨⟨by omega,by omega⟩,⟨by omega,by omega⟩,fun w'=>Sq w' b (if most<y-48∨(most-(y-48)) / 10<v then cZ 22 σ else σ)/\Kp w w' (fun k=>k=b),⟨fun x w'=>w'=w2/\x=decide (most<y-48∨(most-(y-48)) / 10<v),⟨fun h1=>⟨rfl,?_⟩,fun h1=>⟨⟨by omega,by omega⟩,⟨by omega,by omega,by omega,by omega⟩,rfl,?_⟩⟩,?_⟩,?_⟩
    · symm;rw[decide_eq_true_iff];exact .inl (by omega)
    · rw[decide_eq_decide];omega
    · rintro x w3 ⟨EJ,rfl⟩;obtain rfl:w2=w3:=EJ.symm;refine⟨fun hx=>?_,fun hx=>?_⟩
      · rw[if_pos (of_decide_eq_true hx)];refine(dR h2).mono fun ev w4 hh=>?_;obtain⟨rfl,h4,k4⟩:=hh;exact⟨rfl,h4,k2.then k4 (fun _ _ e=>e)⟩
      · rw[if_neg (of_decide_eq_false hx)];exact⟨h2,k2⟩
    · rintro w4 ⟨h4,k4⟩;refine⟨⟨by omega,by omega⟩,i-(j+1),by omega,_,j+1,by omega,by omega,rfl,h4,k4,?_⟩;by_cases hc:most<y-48∨(most-(y-48)) / 10<v
      · rw[if_pos hc]at DM ⊢;exact .inr ⟨jA (by decide),DM⟩
      · rw[if_neg hc]at DM ⊢;have e1:IntKind.wrap .u64 (v*10)=v*10:=dP (show aI .u64 (v*10) from⟨by omega,by omega⟩);have e2:IntKind.wrap .u64 (v*10+(y-48))=v*10+(y-48):=dP (show aI .u64 (v*10+(y-48)) from⟨by omega,by omega⟩);rw[e1,e2];exact .inl ⟨rfl,⟨by omega,by omega⟩,DM⟩
  · have hx:=of_decide_eq_false hx;refine⟨_,rfl,σ.e,by rw[aJ];exact h2.err,fun DN=>?_,fun DN=>?_⟩
    · rcases hσ with⟨rfl,_⟩ | ⟨_,DM⟩
      · exact absurd DN he
      · rw[DM];exact⟨rfl,h2,k2⟩
    · obtain⟨rfl,hv,DM⟩:σ=s/\_:=hσ.resolve_right fun h=>DN h.1;obtain rfl:j=i:=by
        have:=Decidable.not_not.1 DN;have:¬ j<i:=fun h=>hx ⟨h,this⟩;omega
      rw[List.drop_eq_nil_of_le (by omega)]at DM;have DM:cW most σ=(v,skN j σ):=DM;rw[DM];refine(lK h2 G9).mono fun ev w4 hh=>?_;obtain⟨rfl,h4,k4⟩:=hh;exact⟨rfl,rfl,h4,k2.then k4 (fun _ _ e=>e)⟩
def Cn(c:Cm):List Value:=[.int .i64 c.k,.int .i64 c.t,.int .u64 c.u,.int .u64 c.v]
abbrev jC(c:Cm):Value:=.agg #[.int .i64 c.k,.int .i64 c.t,.int .u64 c.u,.int .u64 c.v]
def dY(l:List Cm):List Value:=l.flatMap Cn
theorem xK(l m:List Cm):dY (l++m)=dY l++dY m:=by simp[dY]
theorem xI(l:List Cm):(dY l).length=l.length*4:=by
 induction l with
 | nil=>rfl
 | cons e l ih=>simp[dY,Cn]at ih ⊢;omega
theorem xJ:∀ {l:List Cm} {i:Nat} (h:i<l.length),(dY l)[i*4]?=some (.int .i64 l[i].k)/\(dY l)[i*4+1]?=some (.int .i64 l[i].t)/\(dY l)[i*4+2]?=some (.int .u64 l[i].u)/\(dY l)[i*4+3]?=some (.int .u64 l[i].v)
 | e ::l,0,_=>by simp[dY,Cn]
 | e ::l,i+1,h=>by
  have ih:=xJ (l:=l) (i:=i) (by simpa using h);rw[show(i+1)*4=i*4+1+1+1+1 by omega];exact ih
theorem AP:kL P 26 47 4 (P.bytesOf 47):=⟨(P.info? 47).getD default,((P.info? 47).getD default).zero.getD undef,by kernel_rfl,by kernel_rfl,by kernel_rfl,by kernel_rfl,by kernel_rfl,by kernel_rfl,by decide⟩
theorem Cr:P.bytesOf 47<=64:=of_decide_eq_true (by kernel_rfl)
theorem fL{w:World}{base:Nat}{A B:OA}{n c m d:Nat}{xs ys:List Cm}(ho:aD w base 47 4 A n c (dY xs))(hB:bC w B (dY ys))(hm:m=ys.length)(hd:B=none->d=0)(hn:n+m<=2^39)(hb:base<=w.heap.size):
    ∃ (A':OA) (n' c':Nat) (w':World),Sem.run P (Builtin.append_ #[26,26] 26 #[.slice A n c,.slice B m d]) w=.ok (.slice A' n' c') w' ∧
      aD w' base 47 4 A' n' c' (dY (xs++ys))/\w.grownBy w' (Value.slice A n c).ownBlock/\n'=n+m:=by
  cases B with
  | none =>
    have FB:ys=[]:=by
      cases ys with
      | nil=>rfl
      | cons y ys=>obtain⟨a,e,_⟩:=hB 0 _ rfl;cases e
    subst FB;have h0:m=0:=by simpa using hm
    have h1:=hd rfl;subst h0 h1;exact⟨A,n,c,w,ho.appends_nil AP,by simpa using ho,aF _ _,rfl⟩
  | some a =>
    obtain⟨A',n',c',w',h1,h2,h3,h4,_⟩:=ho.appends (ty:=26) AP Cr (a:=a) (m:=m) (cc:=d) (us:=dY ys) (by rw[xI,hm]) (fun j u hj=>by obtain⟨b,q1,q2⟩:=hB j u hj;cases q1;exact q2) (fun u hu=>by
      simp only[dY,List.mem_flatMap]at hu;obtain⟨e,_,he⟩:=hu;simp[Cn]at he;rcases he with rfl | rfl | rfl | rfl <;>rfl) (by omega) hb
    exact⟨A',n',c',w',h1,by rw[xK];exact h2,h4,h3⟩
theorem oD{w:World}{g:Nat}{c:Cm}{t:TypeId}{fr:Nat×Nat}(h:w.heap[g]?=some (.cells #[.int .i64 c.k,.int .i64 c.t,.int .u64 c.u,.int .u64 c.v] t fr)):bC w (some ⟨g,0,none⟩) (dY [c]):=by
 intro j u hj;refine⟨_,rfl,?_⟩;rw[bB,aA h];simpa[dY,Cn]using hj
theorem gT{W:World}{g:Nat}{t:TypeId}{a0 a1 a2 a3:Value}(h:W.heap[g]?=some (.cells #[a0,a1,a2,a3] t (0,0)))(b0 b1 b2 b3:Value):∃ v,v=(((W.setCell ⟨g,0,none⟩ b0).setCell ⟨g,1,none⟩ b1).setCell ⟨g,2,none⟩ b2).setCell ⟨g,3,none⟩ b3/\v.heap[g]?=some (.cells #[b0,b1,b2,b3] t (0,0))/\Kp W v (fun k=>k=g) ∧
    (∃ u,W.cell? ⟨g,0,none⟩=some u)/\W.frozen? ⟨g,0,none⟩=false/\(∃ u,(W.setCell ⟨g,0,none⟩ b0).cell? ⟨g,1,none⟩=some u)/\(W.setCell ⟨g,0,none⟩ b0).frozen? ⟨g,1,none⟩=false/\(∃ u,((W.setCell ⟨g,0,none⟩ b0).setCell ⟨g,1,none⟩ b1).cell? ⟨g,2,none⟩=some u)/\((W.setCell ⟨g,0,none⟩ b0).setCell ⟨g,1,none⟩ b1).frozen? ⟨g,2,none⟩=false/\(∃ u,(((W.setCell ⟨g,0,none⟩ b0).setCell ⟨g,1,none⟩ b1).setCell ⟨g,2,none⟩ b2).cell? ⟨g,3,none⟩=some u)/\(((W.setCell ⟨g,0,none⟩ b0).setCell ⟨g,1,none⟩ b1).setCell ⟨g,2,none⟩ b2).frozen? ⟨g,3,none⟩=false:=by
  have s1:=aH h 0 b0;have s2:=aH s1 1 b1;have s3:=aH s2 2 b2;have s4:=aH s3 3 b3;exact⟨_,rfl,by simpa using s4,dW (dW (dW (dW (Kp.refl W _) rfl) rfl) rfl) rfl,⟨_,aA h 0⟩,aC h 0,⟨_,aA s1 1⟩,aC s1 1,⟨_,aA s2 2⟩,aC s2 2,⟨_,aA s3 3⟩,aC s3 3⟩
theorem mY{W:World}{g:Nat}{t:TypeId}{a0 a1:Value}(h:W.heap[g]?=some (.cells #[a0,a1] t (0,0)))(b0 b1:Value):∃ v,v=(W.setCell ⟨g,0,none⟩ b0).setCell ⟨g,1,none⟩ b1/\v.heap[g]?=some (.cells #[b0,b1] t (0,0))/\Kp W v (fun k=>k=g) ∧
    (∃ u,W.cell? ⟨g,0,none⟩=some u)/\W.frozen? ⟨g,0,none⟩=false/\(∃ u,(W.setCell ⟨g,0,none⟩ b0).cell? ⟨g,1,none⟩=some u)/\(W.setCell ⟨g,0,none⟩ b0).frozen? ⟨g,1,none⟩=false:=by
  have s1:=aH h 0 b0;have s2:=aH s1 1 b1;exact⟨_,rfl,by simpa using s2,dW (dW (Kp.refl W _) rfl) rfl,⟨_,aA h 0⟩,aC h 0,⟨_,aA s1 1⟩,aC s1 1⟩
theorem sJ(c d:Cm)(w:World):(Op.equalIn 10000 47 (jC c) (jC d)).run P w=.ok (decide (c=d)) w:=by
 rw[run_equalIn_struct w 9999 47 _ _ (by kernel_rfl) (by kernel_rfl)];obtain ⟨f, g, h, k, GR, FN, FM, GS, GP, GO, GN, KP, KO, KN, FL, Gc, KF⟩ : ∃ f g h k : Field, (P.fieldsOf 47).toList = [f, g, h, k] ∧ f.name = "Kind" ∧ f.type = 3 ∧ f.offset = 0 ∧ g.name = "T" ∧ g.type = 2 ∧ g.offset = 1 ∧ h.name = "U" ∧ h.type = 28 ∧ h.offset = 2 ∧ k.name = "V" ∧ k.type = 28 ∧ k.offset = 3 :=
  ⟨((P.fieldsOf 47).toList)[0]!,((P.fieldsOf 47).toList)[1]!,((P.fieldsOf 47).toList)[2]!,((P.fieldsOf 47).toList)[3]!,by kernel_rfl,by kernel_rfl,by kernel_rfl,by kernel_rfl,by kernel_rfl,by kernel_rfl,by kernel_rfl,by kernel_rfl,by kernel_rfl,by kernel_rfl,by kernel_rfl,by kernel_rfl,by kernel_rfl⟩
 rw[GR];have u1:P.underlying 3=some (.int .i64):=by kernel_rfl
 have u2:P.underlying 2=some (.int .i64):=by kernel_rfl
 have u3:P.underlying 28=some (.int .u64):=by kernel_rfl
 have p1:P.plainKey 3=true:=by kernel_rfl
 have p2:P.plainKey 2=true:=by kernel_rfl
 have p3:P.plainKey 28=true:=by kernel_rfl
 have e1:∀(x:Cm)(w:World),(part 3 #[.int .i64 x.k,.int .i64 x.t,.int .u64 x.u,.int .u64 x.v] 0).run P w=.ok (.int .i64 x.k) w:=fun x w=>run_part_plain w p1 rfl;have e2:∀(x:Cm)(w:World),(part 2 #[.int .i64 x.k,.int .i64 x.t,.int .u64 x.u,.int .u64 x.v] 1).run P w=.ok (.int .i64 x.t) w:=fun x w=>run_part_plain w p2 rfl;have e3:∀(x:Cm)(w:World),(part 28 #[.int .i64 x.k,.int .i64 x.t,.int .u64 x.u,.int .u64 x.v] 2).run P w=.ok (.int .u64 x.u) w:=fun x w=>run_part_plain w p3 rfl;have e4:∀(x:Cm)(w:World),(part 28 #[.int .i64 x.k,.int .i64 x.t,.int .u64 x.u,.int .u64 x.v] 3).run P w=.ok (.int .u64 x.v) w:=fun x w=>run_part_plain w p3 rfl;have q1:∀(x y:Int)(w:World),(Op.equalIn 9999 3 (.int .i64 x) (.int .i64 y)).run P w=.ok (x ==y) w:=fun x y w=>run_equalIn_int w 9998 _ _ _ _ _ u1;have q2:∀(x y:Int)(w:World),(Op.equalIn 9999 2 (.int .i64 x) (.int .i64 y)).run P w=.ok (x ==y) w:=fun x y w=>run_equalIn_int w 9998 _ _ _ _ _ u2;have q3:∀(x y:Int)(w:World),(Op.equalIn 9999 28 (.int .u64 x) (.int .u64 y)).run P w=.ok (x ==y) w:=fun x y w=>run_equalIn_int w 9998 _ _ _ _ _ u3;simp only[Op.eqFields,FN,FM,GS,GP,GO,GN,KP,KO,KN,FL,Gc,KF,Sem.run_bind,Sem.run_ite,e1,e2,e3,e4,q1,q2,q3,Result.andThen_ok];obtain⟨k1,t1,u1,v1⟩:=c;obtain⟨k2,t2,u2,v2⟩:=d;simp only[Cm.mk.injEq];by_cases h1:k1=k2 <;>by_cases h2:t1=t2 <;>by_cases h3:u1=u2 <;>by_cases h4:v1=v2 <;>simp[h1,h2,h3,h4]
theorem Aw(s t:Operand)(c d:Cm)(w:World):Sem.run P (do eqGuard .eql 47 s t (jC c) (jC d);Go.binOp .eql 47 (jC c) (jC d):Sem Value) w=.ok (.bool (decide (c=d))) w:=by
 rw[Sem.run_bind,run_eqGuard_agg w .eql 47 s t _ _ (by kernel_rfl),Result.andThen_ok,run_eql_struct w,sJ];rfl
theorem CH(s t:Operand)(c d:Cm)(w:World):Sem.run P (do eqGuard .neq 47 s t (jC c) (jC d);Go.binOp .neq 47 (jC c) (jC d):Sem Value) w=.ok (.bool (!decide (c=d))) w:=by
 rw[Sem.run_bind,run_eqGuard_agg w .neq 47 s t _ _ (by kernel_rfl),Result.andThen_ok,run_neq_struct w,sJ];rfl
abbrev pB(x:Int):Value:=.int .i64 x
abbrev cF(l:List Int):Value:=.string (aO l)
def Bj(x:Int):Prop:=-9223372036854775808<=x/\x<=9223372036854775807
theorem zH:Db P 3 pB Bj where
 law:=Maps.int_keyed Tryz.underlying3
 key:=fun x hx=>⟨_,Maps.keyOf_int_mk Tryz.underlying3 (AU hx)⟩
 inj:=fun x y h=>by simpa[pB]using h
def gQ:List (Int×List Int):=[(1,eJ 1),(2,eJ 2),(3,eJ 3),(4,eJ 4),(5,eJ 5),(6,eJ 6)]
abbrev DI(w:World)(b:Nat)(L:List (Int×List Int)):Prop:=eE pB Bj cF w b L
theorem jJ{w:World}:Calls P 47 #[] w fun ev w'=>ev=.returned (.map (some w.heap.size))/\DI w' w.heap.size gQ/\w.grownBy w' none:=by
 apply vc47;dsimp only[VC47,iq];have h0:DI (w.alloc (.map #[] 0)) w.heap.size []:=eE.made w;have g0:=World.grownBy_alloc w (.map #[] 0) none;have ok:∀ x:Int,0<=x->x<=6->Bj x:=fun x h1 h2=>by unfold Bj;omega
 obtain⟨w1,r1,m1,g1⟩:=eE.update zH Tryz.underlying104 h0 (ok 1 (by omega) (by omega)) (eJ 1);obtain⟨w2,r2,m2,g2⟩:=eE.update zH Tryz.underlying104 m1 (ok 2 (by omega) (by omega)) (eJ 2);obtain⟨w3,r3,m3,g3⟩:=eE.update zH Tryz.underlying104 m2 (ok 3 (by omega) (by omega)) (eJ 3);obtain⟨w4,r4,m4,g4⟩:=eE.update zH Tryz.underlying104 m3 (ok 4 (by omega) (by omega)) (eJ 4);obtain⟨w5,r5,m5,g5⟩:=eE.update zH Tryz.underlying104 m4 (ok 5 (by omega) (by omega)) (eJ 5);obtain⟨w6,r6,m6,g6⟩:=eE.update zH Tryz.underlying104 m5 (ok 6 (by omega) (by omega)) (eJ 6);have st:∀ {a b:World},w.grownBy a none->a.grownBy b (some w.heap.size)->w.grownBy b none:=fun h h'=>aP h h' (fun k hk=>by cases hk;exact Nat.le_refl _);exact⟨w1,r1,w2,r2,w3,r3,w4,r4,w5,r5,w6,r6,rfl,m6,st (st (st (st (st (st g0 g1) g2) g3) g4) g5) g6⟩
theorem BF(w:World):(zeroValue 9).run P w=.ok (.string (aO [])) w:=by
 have h:((P.info? 9).getD default).zero=some (.string (aO [])):=by kernel_rfl
 have h2:(P.info? 9).isSome=true:=by kernel_rfl
 cases hq:P.info? 9 with
 | none=>rw[hq]at h2;cases h2
 | some i=>rw[hq]at h;simp at h;simp[zeroValue,typeInfo,hq,h]
theorem zT(k:Int):(fX gQ k).getD []=eJ k:=by
 by_cases h:iI k
 ·rcases h with rfl | rfl | rfl | rfl | rfl | rfl <;>rfl
 ·unfold iI at h;simp only[not_or]at h;obtain⟨h1,h2,h3,h4,h5,h6⟩:=h;simp[gQ,fX,eJ,h1,h2,h3,h4,h5,h6,Ne.symm h1,Ne.symm h2,Ne.symm h3,Ne.symm h4,Ne.symm h5,Ne.symm h6]
theorem rF{w:World}{b:Nat}(h:DI w b gQ){k:Int}(hk:Bj k):Sem.run P (Instr.lookup 104 (.map (some b)) (.int .i64 k) false) w=.ok (.string (aO (eJ k))) w:=by
 have:=eE.look zH (mt:=104) (et:=9) Tryz.underlying104 (BF w) h hk false;simp only[if_false,Bool.false_eq_true]at this;rw[this,← zT];cases fX gQ k <;>rfl
def xO(c:Cm):Cm:=if c.k=1 then⟨c.k,c.t,0,0⟩ else if c.k=2∨c.k=5 then⟨c.k,0,c.u,c.v⟩ else if c.k=3∨c.k=6 then⟨c.k,0,c.u,0⟩ else⟨c.k,0,0,0⟩
theorem Ak{w:World}(c:Cm):Calls P 50 #[jC c] w fun ev w'=>ev=.returned (jC (xO c))/\w.grownBy w' none:=by
 apply vc50;dsimp only[VC50,Wt,Br,Bb,Rd,Ws,nb,iq];obtain⟨W0,En,g0,b0⟩:=bZ w #[.int .i64 c.k,.int .i64 c.t,.int .u64 c.u,.int .u64 c.v] 47;rw[← En];obtain⟨W1,G7,g1,b1⟩:=bZ W0 #[.int .i64 0,.int .i64 0,.int .u64 0,.int .u64 0] 47;rw[← G7];have Fq:=aB g0 g1;have b0':=aE b0 g1;have lt0:=(Array.getElem?_eq_some_iff.1 b0).1;have gs:=g0.size;obtain⟨k,t,u,v⟩:=c;unfold xO;simp only at b0 b0' ⊢;have fin:∀ a b c d:Int,∃ V,V=(((W1.setCell ⟨W0.heap.size,0,none⟩ (.int .i64 a)).setCell ⟨W0.heap.size,1,none⟩ (.int .i64 b)).setCell ⟨W0.heap.size,2,none⟩ (.int .u64 c)).setCell ⟨W0.heap.size,3,none⟩ (.int .u64 d)/\V.heap[W0.heap.size]?=some (.cells #[.int .i64 a,.int .i64 b,.int .u64 c,.int .u64 d] 47 (0,0))/\w.grownBy V none:=fun a b c d=>by
  obtain⟨V,hV,h1,h2,_⟩:=gT b1 (.int .i64 a) (.int .i64 b) (.int .u64 c) (.int .u64 d);exact⟨V,hV,h1,((Kp.of_none Fq).then h2 (fun k hk e=>e)).grown (fun k hk e=>by omega)⟩
 refine⟨k,aA b0' 0,fun h1=>?_,fun h1=>?_⟩
 ·obtain⟨V,hV,h2,h3,f⟩:=gT b1 (.int .i64 k) (.int .i64 t) (.int .u64 0) (.int .u64 0);obtain⟨V',FT,h4,h5⟩:=fin k t 0 0;obtain rfl:V=V':=hV.trans FT.symm;refine⟨k,aA b0' 0,t,aA b0' 1,f.1,f.2.1,f.2.2.1,f.2.2.2.1,f.2.2.2.2.1,f.2.2.2.2.2.1,f.2.2.2.2.2.2.1,f.2.2.2.2.2.2.2,?_⟩;rw[← hV];exact⟨k,aA h2 0,t,aA h2 1,0,aA h2 2,0,aA h2 3,by rw[if_pos h1],h5⟩
 refine⟨fun x w'=>w'=W1/\x=decide (k=2∨k=5),⟨fun h=>⟨rfl,by rw[decide_eq_decide];omega⟩,fun h=>⟨rfl,by rw[decide_eq_decide];omega⟩⟩,?_⟩;rintro x w1 ⟨hw,rfl⟩;obtain rfl:W1=w1:=hw.symm;refine⟨fun h2=>?_,fun h2=>?_⟩
 ·have h2:=of_decide_eq_true h2;obtain⟨V,hV,h3,h4,f⟩:=gT b1 (.int .i64 k) (.int .i64 0) (.int .u64 u) (.int .u64 v);obtain⟨V',FT,h4,h5⟩:=fin k 0 u v;obtain rfl:V=V':=hV.trans FT.symm;refine⟨k,aA b0' 0,u,aA b0' 2,v,aA b0' 3,f.1,f.2.1,f.2.2.1,f.2.2.2.1,f.2.2.2.2.1,f.2.2.2.2.2.1,f.2.2.2.2.2.2.1,f.2.2.2.2.2.2.2,?_⟩;rw[← hV];exact⟨k,aA h3 0,0,aA h3 1,u,aA h3 2,v,aA h3 3,by rw[if_neg h1,if_pos h2],h5⟩
 have h2:=of_decide_eq_false h2;refine⟨fun x w'=>w'=W1/\x=decide (k=3∨k=6),⟨fun h=>⟨rfl,by rw[decide_eq_decide];omega⟩,fun h=>⟨rfl,by rw[decide_eq_decide];omega⟩⟩,?_⟩;rintro x w1 ⟨hw,rfl⟩;obtain rfl:W1=w1:=hw.symm;refine⟨fun h3=>?_,fun h3=>?_⟩
 ·have h3:=of_decide_eq_true h3;obtain⟨V,hV,h4,h5,f⟩:=gT b1 (.int .i64 k) (.int .i64 0) (.int .u64 u) (.int .u64 0);obtain⟨V',FT,h6,h5⟩:=fin k 0 u 0;obtain rfl:V=V':=hV.trans FT.symm;refine⟨k,aA b0' 0,u,aA b0' 2,f.1,f.2.1,f.2.2.1,f.2.2.2.1,f.2.2.2.2.1,f.2.2.2.2.2.1,f.2.2.2.2.2.2.1,f.2.2.2.2.2.2.2,?_⟩;rw[← hV];exact⟨k,aA h4 0,0,aA h4 1,u,aA h4 2,0,aA h4 3,by rw[if_neg h1,if_neg h2,if_pos h3],h5⟩
 ·have h3:=of_decide_eq_false h3;obtain⟨V,hV,h4,h5,f⟩:=gT b1 (.int .i64 k) (.int .i64 0) (.int .u64 0) (.int .u64 0);obtain⟨V',FT,h6,h5⟩:=fin k 0 0 0;obtain rfl:V=V':=hV.trans FT.symm;refine⟨k,aA b0' 0,f.1,f.2.1,f.2.2.1,f.2.2.2.1,f.2.2.2.2.1,f.2.2.2.2.2.1,f.2.2.2.2.2.2.1,f.2.2.2.2.2.2.2,?_⟩;rw[← hV];exact⟨k,aA h4 0,0,aA h4 1,0,aA h4 2,0,aA h4 3,by rw[if_neg h1,if_neg h2,if_neg h3],h5⟩
theorem kQ(c:Cm):cM c=(decide (eJ c.k≠[]) && (decide (c=xO c) && decide (c.t≥0))):=by
 obtain⟨k,t,u,v⟩:=c;unfold cM xO;rw[Bool.eq_iff_iff];by_cases h1:k=1
 ·subst h1;simp[eJ];omega
 by_cases h2:k=2∨k=5
 ·have:eJ k≠[]:=fun h=>AJ h (by omega);simp[h1,h2,this];omega
 by_cases h3:k=3∨k=6
 ·have:eJ k≠[]:=fun h=>AJ h (by omega);simp[h1,h2,h3,this];omega
 by_cases h4:k=4
 ·subst h4;simp[eJ];omega
 ·simp only[not_or]at h2 h3;simp[h1,h2,h3,h4,eJ]
theorem dQ{w:World}{c:Cm}(hc:Bj c.k):Calls P 17 #[jC c] w fun ev w'=>ev=.returned (.bool (cM c))/\w.grownBy w' none:=by
 apply vc17;dsimp only[VC17,rb,Bb,Rd,Rc,Eg,nb,iq];obtain⟨W0,En,g0,b0⟩:=bZ w #[.int .i64 c.k,.int .i64 c.t,.int .u64 c.u,.int .u64 c.v] 47;rw[← En];have cd:∀ {u:World},u.heap[w.heap.size]?=some (.cells #[.int .i64 c.k,.int .i64 c.t,.int .u64 c.u,.int .u64 c.v] 47 (0,0))->u.cell? ⟨w.heap.size,0,none⟩=some (.int .i64 c.k)/\u.cell? ⟨w.heap.size,1,none⟩=some (.int .i64 c.t)/\u.cell? ⟨w.heap.size,2,none⟩=some (.int .u64 c.u)/\u.cell? ⟨w.heap.size,3,none⟩=some (.int .u64 c.v):=fun h=>⟨aA h 0,aA h 1,aA h 2,aA h 3⟩;refine⟨fun u=>u.heap[w.heap.size]?=some (.cells #[.int .i64 c.k,.int .i64 c.t,.int .u64 c.u,.int .u64 c.v] 47 (0,0)),b0,jJ.mono fun ev w1 hh=>?_⟩;obtain⟨rfl,hm,g1⟩:=hh;have b1:=aE (w:=W0.drew) b0 g1;have Fq:=aB (aG g0) g1;refine⟨_,rfl,b1,c.k,fun u h=>(cd h).1,_,rF hm hc,_,fun w=>lL _ _ _ _ w,fun h=>?_,fun h=>?_⟩
 ·rw[show(⟨#[]⟩:ByteArray)=aO [] from rfl]at h;have hk:eJ c.k≠[]:=fun e=>by rw[e]at h;simp at h
  refine⟨c.k,fun u h=>(cd h).1,c.t,fun u h=>(cd h).2.1,c.u,fun u h=>(cd h).2.2.1,c.v,fun u h=>(cd h).2.2.2,c.k,(cd b1).1,c.t,(cd b1).2.1,c.u,(cd b1).2.2.1,c.v,(cd b1).2.2.2,(Ak c).mono fun ev w2 hh=>?_⟩;obtain⟨rfl,g2⟩:=hh;have b2:=aE b1 g2;refine⟨_,_,_,_,rfl,b2,_,fun w=>Aw _ _ c (xO c) w,fun h=>?_,fun h=>?_⟩
  ·refine⟨c.t,(cd b2).2.1,?_,aB Fq g2⟩;rw[kQ,decide_eq_true hk,h];rfl
  ·refine⟨?_,aB Fq g2⟩;rw[kQ,h,Bool.false_and,Bool.and_false]
 ·refine⟨?_,Fq⟩;have hk:eJ c.k=[]:=by
   have:=tE (l:=eJ c.k);rw[show(decide (aO (eJ c.k)=⟨#[]⟩))=true by simpa using h]at this;exact of_decide_eq_true this.symm
  rw[kQ,hk];rfl
theorem tJ{w:World}(c:Cm):Calls P 18 #[jC c] w fun ev w'=>ev=.returned (.bool (cM c))/\w.grownBy w' none:=by
 apply vc18;dsimp only[VC18,rb,Br,Bb,Rd,Eg,nb,iq];obtain⟨W0,En,g0,b0⟩:=bZ w #[.int .i64 c.k,.int .i64 c.t,.int .u64 c.u,.int .u64 c.v] 47;rw[← En];obtain⟨k,t,u,v⟩:=c;unfold cM;simp only at b0 ⊢;refine⟨k,aA b0 0,fun h1=>?_,fun h1=>?_⟩
 ·rw[if_pos h1];refine⟨t,aA b0 1,fun h2=>⟨u,aA b0 2,fun h3=>⟨v,aA b0 3,?_,g0⟩,fun h3=>⟨?_,g0⟩⟩,fun h2=>⟨?_,g0⟩⟩
  ·congr 2;rw[decide_eq_decide];omega
  ·congr 2;symm;rw[decide_eq_false_iff_not];omega
  ·congr 2;symm;rw[decide_eq_false_iff_not];omega
 rw[if_neg h1];refine⟨fun x w'=>w'=W0/\x=decide (k=2∨k=5),⟨fun h=>⟨rfl,by rw[decide_eq_decide];omega⟩,fun h=>⟨rfl,by rw[decide_eq_decide];omega⟩⟩,?_⟩;rintro x w1 ⟨hw,rfl⟩;obtain rfl:W0=w1:=hw.symm;refine⟨fun h2=>?_,fun h2=>?_⟩
 ·rw[if_pos (of_decide_eq_true h2)];exact⟨t,aA b0 1,rfl,g0⟩
 rw[if_neg (of_decide_eq_false h2)];refine⟨fun x w'=>w'=W0/\x=decide (k=3∨k=6),⟨fun h=>⟨rfl,by rw[decide_eq_decide];omega⟩,fun h=>⟨rfl,by rw[decide_eq_decide];omega⟩⟩,?_⟩;rintro x w1 ⟨hw,rfl⟩;obtain rfl:W0=w1:=hw.symm;refine⟨fun h3=>?_,fun h3=>?_⟩
 ·rw[if_pos (of_decide_eq_true h3)];refine⟨t,aA b0 1,fun h4=>⟨v,aA b0 3,?_,g0⟩,fun h4=>⟨?_,g0⟩⟩
  ·congr 2;rw[decide_eq_decide];omega
  ·congr 2;symm;rw[decide_eq_false_iff_not];omega
 rw[if_neg (of_decide_eq_false h3)];refine⟨fun h4=>?_,fun h4=>?_⟩
 ·rw[if_pos h4];refine⟨k,aA b0 0,t,aA b0 1,u,aA b0 2,v,aA b0 3,_,fun w=>Aw _ _ ⟨k,t,u,v⟩ ⟨4,0,0,0⟩ w,?_,g0⟩;congr 2;rw[decide_eq_decide,Cm.mk.injEq];omega
 ·rw[if_neg h4];exact⟨rfl,g0⟩
theorem AH{κ υ:Type}[DecidableEq κ]{k:κ}{done:List κ}:∀ L:List (κ×υ),(L.filter fun q=>decide (q.1 ∉ k ::done)).length<=(L.filter fun q=>decide (q.1 ∉ done)).length
 | []=>Nat.le_refl _
 | q ::L=>by
  have ih:=AH (k:=k) (done:=done) L;rw[List.filter_cons,List.filter_cons];by_cases h1:q.1∈done
  ·rw[if_neg (by simp[h1]),if_neg (by simp[h1])];exact ih
  ·rw[if_pos (c:=decide (q.1 ∉ done)=true) (by simp[h1]),List.length_cons];by_cases h2:q.1=k
   ·rw[if_neg (by simp[h2])];omega
   ·rw[if_pos (by simp[h1,h2]),List.length_cons];omega
theorem AG{κ υ:Type}[DecidableEq κ]{p:κ×υ}{done:List κ}(hn:p.1 ∉ done):∀ {L:List (κ×υ)},p∈L->(L.filter fun q=>decide (q.1 ∉ p.1 ::done)).length<(L.filter fun q=>decide (q.1 ∉ done)).length
 | q ::L,h=>by
  rw[List.filter_cons,List.filter_cons];rcases List.mem_cons.1 h with rfl | h
  ·have:=AH (k:=p.1) (done:=done) L;rw[if_neg (by simp),if_pos (by simp[hn]),List.length_cons];omega
  ·have ih:=AG hn h;by_cases h1:q.1∈done
   ·rw[if_neg (by simp[h1]),if_neg (by simp[h1])];exact ih
   ·rw[if_pos (c:=decide (q.1 ∉ done)=true) (by simp[h1]),List.length_cons];by_cases h2:q.1=p.1
    ·rw[if_neg (by simp[h2])];omega
    ·rw[if_pos (by simp[h1,h2]),List.length_cons];omega
theorem pW(k:Int):aN (eJ k):=by
 unfold eJ
 repeat' split
 all_goals decide
theorem wG{k:Int}{v:List Int}(hk:iI k)(h:eJ k=v):bX v=k:=by rw[← h,CV hk]
theorem zG {w:World} {v:List Int} (hv:aN v):Calls P 33 #[cF v] w fun ev w'=>ev=.returned (.int .i64 (bX v))/\w.grownBy w' none:=by
  apply vc33;dsimp only[VC33,Bb,Eg,iq];refine jJ.mono fun ev w1 hh=>?_;obtain⟨rfl,hm,g1⟩:=hh;obtain⟨o,DV,hI⟩:=eE.range Tryz.underlying104 hm;have g2:=aB g1 (World.grownBy_alloc w1 o none);have DU:=g1.size;refine⟨_,rfl,_,_,DV,fun m w'=>∃ (done:List Int) (last:Option (Int×List Int)),lC pB cF w' w1.heap.size w.heap.size gQ done last/\(∀ k∈done,iI k/\eJ k≠v)/\w.grownBy w' none/\m=(gQ.filter fun q=>decide (q.1 ∉ done)).length,⟨_,[],none,hI,by simp,g2,rfl⟩,?_⟩;rintro m w2 ⟨done,last,hI,hd,g3,rfl⟩;have hE:∀ x y:Int,pB x=pB y->x=y:=fun x y h=>by simpa[pB]using h
  rcases hI.next (P:=P) hE 0 with⟨DQ,DV⟩ | ⟨p,hp,Kr,w3,DV,JU,K3⟩
  · refine⟨_,.inl ⟨DV,fun h=>(by cases h),fun _=>⟨?_,g3⟩⟩⟩;congr 2;by_cases h:bX v=0
    · exact h.symm
    · exfalso;obtain⟨h1,h2⟩:=jQ h;have:(bX v,eJ (bX v))∈gQ:=by
        unfold gQ;rcases h2 with h | h | h | h | h | h <;>rw[h] <;>simp
      exact(hd _ (DQ _ this)).2 h1.symm
  · have Fm:p.2=eJ p.1/\iI p.1:=by
      unfold gQ at hp;simp only[List.mem_cons,List.not_mem_nil,or_false]at hp;unfold iI;rcases hp with rfl | rfl | rfl | rfl | rfl | rfl <;>simp
    have g4:w.grownBy w3 none:=((Kp.of_none g3).then K3 (fun k hk e=>e)).grown (fun k hk e=>by omega);refine⟨_,.inr ⟨_,_,DV,fun _=>⟨_,_,_,JU.entry,_,fun w=>iE _ _ _ _ w,fun h=>?_,fun h=>?_⟩,fun h=>(by cases h)⟩⟩
    · have h:=mO (by rw[Fm.1];exact pW _) hv (of_decide_eq_true h);refine⟨?_,g4⟩;rw[wG Fm.2 (by rw[← Fm.1];exact h)]
    · have h:aO p.2≠aO v:=of_decide_eq_false h;refine⟨_,AG Kr hp,p.1 ::done,_,JU,?_,g4,rfl⟩;intro k hk;rcases List.mem_cons.1 hk with rfl | hk
      · exact⟨Fm.2,fun e=>h (by rw[Fm.1,e])⟩
      · exact hd k hk
theorem cJ{a b:List Int}(h:a.length+b.length<=9223372036854775807)(w:World):Sem.run P (Go.binOp .add 9 (cF a) (cF b)) w=.ok (cF (a++b)) w:=by
 have:=run_string_add_sum (P:=P) (w:=w) (aO a) (aO b) (by rw[aK,aK];exact h);rw[Ba]at this;exact this
theorem BG{b:Int}{s:Sn}{r:List Int}(he:s.e=0)(hl:s.l=b ::r):bF [b] s=(true,skN 1 s):=uY he (by rw[hl];rfl)
theorem vD {w:World} {b:Nat} {s:Sn} (h:Sq w b s) (he:s.e=0):Calls P 34 #[mF b] w fun ev w'=>ev=.returned (cF (s.l.takeWhile bE))/\Sq w' b (skN (s.l.takeWhile bE).length s)/\Kp w w' (fun k=>k=b):=by
  apply vc34;dsimp only[VC34,Br,Bb,cB,nb];have hW:=iB bE s.l;obtain⟨W,FS⟩:∃ W,W=(s.l.takeWhile bE).length:=⟨_,rfl⟩;have DO:s.l.length<=2^40:=by have:=h.2.1;omega
  refine(fQ h).mono fun ev w1 hh=>?_;obtain⟨rfl,rfl⟩:=hh;refine⟨_,_,rfl,fun m v x is w'=>∃ j:Nat,v=aO (s.l.take j)/\j<=W/\m=W-j/\Sq w' b (skN j s)/\Kp w1 w' (fun k=>k=b)/\x=(fW (skN j s)).1/\is=(fW (skN j s)).2,⟨_,0,rfl,by omega,rfl,h,Kp.refl _ _,rfl,rfl⟩,?_⟩;rintro m v x is w2 ⟨j,rfl,hj,rfl,h2,k2,rfl,rfl⟩;have e2:(skN j s).e=0:=by rw[vH];exact he
  have Ho:fW (skN j s)=((skN j s).l.headD 0,decide ((skN j s).l≠[])):=by unfold fW;rw[if_neg (by simp[e2])]
  rw[Ho];have Hr:=gK j s;have fin:j=W->(cF (s.l.take j)=cF (s.l.takeWhile bE)/\Sq w2 b (skN (s.l.takeWhile bE).length s)):=fun e=>by
    subst e;refine⟨?_,by rw[← FS];exact h2⟩;have:=fC bE s.l;rw[← FS]at this;congr 2
    conv=>lhs;rw[this,List.take_left' FS.symm]
  refine⟨fun hx=>?_,fun hx=>?_⟩
  · have hx:(skN j s).l≠[]:=of_decide_eq_true hx;have EB:j<s.l.length:=by
      rw[Hr]at hx;have:=List.length_pos_iff.2 hx;rw[List.length_drop]at this;omega
    have Fx:(skN j s).l=s.l[j] ::s.l.drop (j+1):=by rw[Hr,List.drop_eq_getElem_cons EB]
    have KL:(skN j s).l.headD 0=s.l[j]:=by rw[Fx];rfl
    have EF:=iS bE (l:=s.l) (i:=j) (by omega) EB;have JF:=h.2.2.2 _ (List.getElem_mem EB);rw[KL];have out:¬ (s.l[j]≥97/\s.l[j]<=122)->j=W:=fun hn=>by
      have:¬ j<W:=fun DL=>hn (by
        rw[← FS,decide_eq_true DL]at EF;exact of_decide_eq_true (p:=s.l[j]≥97/\s.l[j]<=122) EF)
      omega
    refine⟨fun h1=>⟨fun IQ=>?_,fun IQ=>?_⟩,fun h1=>?_⟩
    · have LP:j<W:=by
        have:bE s.l[j]=true:=by unfold bE;rw[decide_eq_true_iff];exact⟨h1,IQ⟩
        rw[EF]at this;have:=of_decide_eq_true this;omega
      refine(iT h2 JF).mono fun ev w3 hh=>?_;obtain⟨rfl,h3,k3⟩:=hh;rw[BG e2 Fx]at h3;have h3:Sq w3 b (skN 1 (skN j s)):=h3;rw[tH]at h3;have g4:=World.grownBy_alloc w3 (.cells #[.int .u8 s.l[j]] 5) none;refine⟨_,rfl,_,Ct JF,_,fun w=>cJ (by simp;omega) w,(fQ (h3.kept g4)).mono fun ev w4 hh=>?_⟩;obtain⟨rfl,rfl⟩:=hh;refine⟨_,_,rfl,W-(j+1),by omega,j+1,by rw[List.take_succ_eq_append_getElem EB],by omega,rfl,h3.kept g4,(k2.then k3 (fun _ _ e=>e)).alloc _,rfl,rfl⟩
    · obtain⟨f1,f2⟩:=fin (out fun h=>IQ h.2);exact⟨by rw[← f1],f2,k2⟩
    · obtain⟨f1,f2⟩:=fin (out fun h=>h1 h.1);exact⟨by rw[← f1],f2,k2⟩
  · have hx:(skN j s).l=[]:=by simpa using hx
    have:j=W:=by
      rw[Hr]at hx;have:=congrArg List.length hx;simp at this;omega
    obtain⟨f1,f2⟩:=fin this;exact⟨by rw[← f1],f2,k2⟩
theorem pR{m:Int}{s:Sn}(hm:0<=m):0<=(cW m s).1/\(cW m s).1<=m:=by
 unfold cW;split
 ·exact⟨Int.le_refl _,hm⟩
 ·split
  ·exact⟨Int.le_refl _,hm⟩
  ·split
   ·exact⟨Int.le_refl _,hm⟩
   ·split
    ·exact⟨Int.le_refl _,hm⟩
    ·rename_i v hv;have D6:∀ x∈s.l.takeWhile bQ,bQ x=true:=fun x hx=>List.all_eq_true.1 (List.all_takeWhile (p:=bQ) (l:=s.l)) x hx;obtain⟨h1,h2⟩:=mS D6 (by omega) hm hv;have:=kC (v:=0) (by omega) D6;show 0<=v/\v<=m;omega
theorem zB{w:World}{b:Nat}{s:Sn}{q:Nat}{most:Int}(h:Sq w b s)(hq:w.heap[q]?=some (.cells #[mF b] 78 (0,0)))(DN:q≠b)(hm:0<=most/\most<=18446744073709551615):
    Calls P 64 #[.int .u64 most,.pointer (some ⟨q,0,none⟩)] w fun ev w'=>ev=.returned (.int .u64 (cW most (bF [32] s).2).1)/\Sq w' b (cW most (bF [32] s).2).2/\Kp w w' (fun k=>k=b):=by
  apply vc64;dsimp only[VC64,cI,cB];refine⟨_,aA hq 0,(iT h (x:=32) (by omega)).mono fun ev w1 hh=>?_⟩;obtain⟨rfl,h1,k1⟩:=hh;have F7:w1.heap[q]?=_:=(k1.block q (Array.getElem?_eq_some_iff.1 hq).1 DN).trans hq;refine⟨_,rfl,_,aA F7 0,(pA h1 hm).mono fun ev w2 hh=>?_⟩;obtain⟨rfl,h2,k2⟩:=hh;exact⟨_,rfl,rfl,h2,k1.then k2 (fun _ _ e=>e)⟩
theorem Au{W:World}{g:Nat}{t:TypeId}{a0 a1 a2 a3:Value}(h:W.heap[g]?=some (.cells #[a0,a1,a2,a3] t (0,0))):
    (∀ u,(W.setCell ⟨g,1,none⟩ u).heap[g]?=some (.cells #[a0,u,a2,a3] t (0,0)))/\(∀ u,(W.setCell ⟨g,2,none⟩ u).heap[g]?=some (.cells #[a0,a1,u,a3] t (0,0)))/\∀ u,(W.setCell ⟨g,3,none⟩ u).heap[g]?=some (.cells #[a0,a1,a2,u] t (0,0)) :=
  ⟨fun u=>by simpa using aH h 1 u,fun u=>by simpa using aH h 2 u,fun u=>by simpa using aH h 3 u⟩
theorem rR{w w':World}{S:Nat->Prop}{g j:Nat}{u:Value}(h:Kp w w' S)(hg:w.heap.size<=g):Kp w (w'.setCell ⟨g,j,none⟩ u) S:=h.set (p:=⟨g,j,none⟩) (.inl hg) u
theorem vG{w:World}{b:Nat}{s:Sn}{k:Int}(h:Sq w b s):Calls P 35 #[mF b,.int .i64 k] w fun ev w'=>ev=.returned (jC (eI k s).1)/\Sq w' b (eI k s).2/\Kp w w' (fun k=>k=b):=by
 apply vc35;dsimp only[VC35,Wt,Br,Bb,Rd,Ws,cI,cB,nb,iq]
 try simp only[aI]
 obtain⟨W0,En,g0,b0⟩:=bZ w #[mF b] 78;rw[← En];obtain⟨W1,G7,g1,b1⟩:=bZ W0 #[.int .i64 0,.int .i64 0,.int .u64 0,.int .u64 0] 47;rw[← G7];obtain⟨W2,Fe,g2,b2⟩:=bZ W1 #[.int .i64 0,.int .i64 0,.int .u64 0,.int .u64 0] 47;rw[← Fe];obtain⟨V,hV,v1,v2,f⟩:=gT b2 (.int .i64 k) (.int .i64 0) (.int .u64 0) (.int .u64 0);refine⟨f.1,f.2.1,f.2.2.1,f.2.2.2.1,f.2.2.2.2.1,f.2.2.2.2.2.1,f.2.2.2.2.2.2.1,f.2.2.2.2.2.2.2,?_⟩;rw[← hV];have z0:=g0.size;have z1:=g1.size;have z2:=g2.size;have lt:=h.lt;have lt0:=(Array.getElem?_eq_some_iff.1 b0).1;have lt1:=(Array.getElem?_eq_some_iff.1 b1).1;have EP:=aB (aB g0 g1) g2;have Lh:Sq V b s:=(h.kept EP).kp v2 (by show ¬ b=_;omega);have kV:Kp w V (fun k=>k=b):=(Kp.of_none EP).then v2 (fun k hk e=>by omega)
 -- what each line's middle keeps
 let Z:Sn->Cm->World->Prop:=fun σ c w'=>Sq w' b σ/\Kp w w' (fun k=>k=b)/\w'.heap[w.heap.size]?=some (.cells #[mF b] 78 (0,0))/\w'.heap[W0.heap.size]?=some (.cells #[.int .i64 0,.int .i64 0,.int .u64 0,.int .u64 0] 47 (0,0))/\w'.heap[W1.heap.size]?=some (.cells #[.int .i64 c.k,.int .i64 c.t,.int .u64 c.u,.int .u64 c.v] 47 (0,0));have zV:Z s ⟨k,0,0,0⟩ V:=⟨Lh,kV,by rw[v2.block _ (by omega) (by show ¬ w.heap.size=_;omega)];exact aE (aE b0 g1) g2,by rw[v2.block _ (by omega) (by show ¬ W0.heap.size=_;omega)];exact aE b1 g2,v1⟩
 -- a number is read
 have zN:∀ {σ c w1 most},Z σ c w1->(0<=most/\most<=18446744073709551615)->Calls P 64 #[.int .u64 most,.pointer (some ⟨w.heap.size,0,none⟩)] w1 fun ev w'=>ev=.returned (.int .u64 (cW most (bF [32] σ).2).1)/\Z (cW most (bF [32] σ).2).2 c w':=fun {σ c w1 most} hz hm=>by
  obtain⟨q1,q2,q3,q4,q5⟩:=hz;have:=(Array.getElem?_eq_some_iff.1 q3).1;have:=(Array.getElem?_eq_some_iff.1 q4).1;have:=(Array.getElem?_eq_some_iff.1 q5).1;refine(zB q1 q3 (by omega) hm).mono fun ev w2 hh=>?_;obtain⟨rfl,r1,r2⟩:=hh;exact⟨rfl,r1,q2.then r2 (fun _ _ e=>e),by rw[r2.block _ (by omega) (by show ¬ w.heap.size=b;omega)];exact q3,by rw[r2.block _ (by omega) (by show ¬ W0.heap.size=b;omega)];exact q4,by rw[r2.block _ (by omega) (by show ¬ W1.heap.size=b;omega)];exact q5⟩
 -- a cell is written
 have zS:∀ {σ c w1},Z σ c w1->(∀ x,Z σ { c with t:=x } (w1.setCell ⟨W1.heap.size,1,none⟩ (.int .i64 x)))/\(∀ x,Z σ { c with u:=x } (w1.setCell ⟨W1.heap.size,2,none⟩ (.int .u64 x)))/\∀ x,Z σ { c with v:=x } (w1.setCell ⟨W1.heap.size,3,none⟩ (.int .u64 x)):=fun {σ c w1} hz=>by
  obtain⟨q1,q2,q3,q4,q5⟩:=hz;have s5:=Au q5;have far:∀ (j:Nat) (u:Value) {g:Nat} {o:Obj},g≠W1.heap.size->w1.heap[g]?=some o->(w1.setCell ⟨W1.heap.size,j,none⟩ u).heap[g]?=some o:=fun j u {g o} hg ho=>by
   rw[(cH (j:=j) (u:=u) (Kp.refl w1 (fun k=>k=W1.heap.size)) rfl).block g (Array.getElem?_eq_some_iff.1 ho).1 hg];exact ho
  exact⟨fun x=>⟨⟨far _ _ (by omega) q1.1,q1.2⟩,rR q2 (by omega),far _ _ (by omega) q3,far _ _ (by omega) q4,s5.1 _⟩,fun x=>⟨⟨far _ _ (by omega) q1.1,q1.2⟩,rR q2 (by omega),far _ _ (by omega) q3,far _ _ (by omega) q4,s5.2.1 _⟩,fun x=>⟨⟨far _ _ (by omega) q1.1,q1.2⟩,rR q2 (by omega),far _ _ (by omega) q3,far _ _ (by omega) q4,s5.2.2 _⟩⟩
 have zW:∀ {σ c w1},Z σ c w1->∀ j,j<4->(∃ u,w1.cell? ⟨W1.heap.size,j,none⟩=some u)/\w1.frozen? ⟨W1.heap.size,j,none⟩=false:=fun {σ c w1} hz j hj=>by
  obtain⟨q1,q2,q3,q4,q5⟩:=hz;refine⟨?_,aC q5 j⟩;rw[aA q5 j]
  match j,hj with
  | 0,_=>exact⟨_,rfl⟩
  | 1,_=>exact⟨_,rfl⟩
  | 2,_=>exact⟨_,rfl⟩
  | 3,_=>exact⟨_,rfl⟩
 refine⟨fun w'=>Z (eY k s).2 (eY k s).1 w',⟨fun h1=>?_,fun h1=>?_⟩,?_⟩
 ·refine(zN zV (by omega)).mono fun ev w1 hh=>?_;obtain⟨rfl,hz⟩:=hh;have hr:=pR (m:=9223372036854775807) (s:=(bF [32] s).2) (by decide);refine⟨_,rfl,⟨by omega,by omega⟩,(zW hz 1 (by omega)).1,(zW hz 1 (by omega)).2,?_⟩;unfold eY;rw[if_pos h1];exact(zS hz).1 _
 ·refine⟨fun x w'=>w'=V/\x=decide (k=2∨k=5),⟨fun h=>⟨rfl,by rw[decide_eq_decide];omega⟩,fun h=>⟨rfl,by rw[decide_eq_decide];omega⟩⟩,?_⟩;rintro x w1 ⟨hw,rfl⟩;obtain rfl:V=w1:=hw.symm;refine⟨fun h2=>?_,fun h2=>?_⟩
  ·refine(zN zV (by omega)).mono fun ev w1 hh=>?_;obtain⟨rfl,hz⟩:=hh;refine⟨_,rfl,(zW hz 2 (by omega)).1,(zW hz 2 (by omega)).2,?_⟩;refine(zN ((zS hz).2.1 _) (by omega)).mono fun ev w2 hh=>?_;obtain⟨rfl,hz⟩:=hh;refine⟨_,rfl,(zW hz 3 (by omega)).1,(zW hz 3 (by omega)).2,?_⟩;unfold eY;rw[if_neg h1,if_pos (of_decide_eq_true h2)];exact(zS hz).2.2 _
  have h2:=of_decide_eq_false h2;refine⟨fun x w'=>w'=V/\x=decide (k=3∨k=6),⟨fun h=>⟨rfl,by rw[decide_eq_decide];omega⟩,fun h=>⟨rfl,by rw[decide_eq_decide];omega⟩⟩,?_⟩;rintro x w1 ⟨hw,rfl⟩;obtain rfl:V=w1:=hw.symm;refine⟨fun h3=>?_,fun h3=>?_⟩
  ·refine(zN zV (by omega)).mono fun ev w1 hh=>?_;obtain⟨rfl,hz⟩:=hh;refine⟨_,rfl,(zW hz 2 (by omega)).1,(zW hz 2 (by omega)).2,?_⟩;unfold eY;rw[if_neg h1,if_neg h2,if_pos (of_decide_eq_true h3)];exact(zS hz).2.1 _
  ·unfold eY;rw[if_neg h1,if_neg h2,if_neg (of_decide_eq_false h3)];exact zV
 ·rintro w1 ⟨q1,q2,q3,q4,q5⟩;have:=(Array.getElem?_eq_some_iff.1 q3).1;have:=(Array.getElem?_eq_some_iff.1 q4).1;have:=(Array.getElem?_eq_some_iff.1 q5).1;refine⟨_,aA q3 0,(iT q1 (x:=10) (by omega)).mono fun ev w2 hh=>?_⟩;obtain⟨rfl,r1,r2⟩:=hh;have q4:w2.heap[W0.heap.size]?=_:=(r2.block _ (by omega) (by show ¬ W0.heap.size=b;omega)).trans q4;have q5:w2.heap[W1.heap.size]?=_:=(r2.block _ (by omega) (by show ¬ W1.heap.size=b;omega)).trans q5;generalize hc:(eY k s).1=c at q5;obtain⟨U,hU,u1,u2,f⟩:=gT q4 (.int .i64 c.k) (.int .i64 c.t) (.int .u64 c.u) (.int .u64 c.v);refine⟨_,rfl,_,aA q5 0,_,aA q5 1,_,aA q5 2,_,aA q5 3,f.1,f.2.1,f.2.2.1,f.2.2.2.1,f.2.2.2.2.1,f.2.2.2.2.2.1,f.2.2.2.2.2.2.1,f.2.2.2.2.2.2.2,?_⟩;rw[← hU];refine⟨_,aA u1 0,_,aA u1 1,_,aA u1 2,_,aA u1 3,?_,?_,?_⟩
  ·unfold eI;simp only[hc]
  ·exact r1.kp u2 (by show ¬ b=W0.heap.size;omega)
  ·exact(q2.then r2 (fun _ _ e=>e)).then u2 (fun k hk e=>by omega)
abbrev parV(A:OA)(n c:Nat)(o:List Cm×Int×Int×Int):Value:=.tuple #[.slice A n c,.agg #[.int .i64 o.2.1,.int .i64 o.2.2.1],.int .i64 o.2.2.2]
def ParO(w:World)(o:List Cm×Int×Int×Int)(ev:Ending)(w':World):Prop:=∃(A:OA)(n c:Nat),ev=.returned (parV A n c o)/\n=o.1.length/\aD w' w.heap.size 47 4 A n c (dY o.1)/\w.grownBy w' none
theorem yV{n:Nat}{s:Sn}{out:List Cm}(hn:s.l.length<n)(he:s.e≠0):jH n s out=([],s.p,s.q,s.e):=by
 match n with
 | n+1=>unfold jH;rw[if_pos he]
theorem pL{n:Nat}{s:Sn}{out:List Cm}(hn:s.l.length<n)(he:s.e=0)(hl:s.l=[]):jH n s out=(out,0,0,0):=by
 match n with
 | n+1=>unfold jH;rw[if_neg (by simp[he]),if_pos hl]
theorem pM{n:Nat}{s:Sn}{out:List Cm}(hn:s.l.length<n)(he:s.e=0)(hl:s.l≠[])(hk:bX (s.l.takeWhile bE)=0):jH n s out=([],s.p,s.q,30):=by
 match n with
 | n+1=>unfold jH;rw[if_neg (by simp[he]),if_neg hl,if_pos hk]
theorem mP {n:Nat} {s:Sn} {out:List Cm} (hn:s.l.length<n) (he:s.e=0) (hl:s.l≠[]) (hk:bX (s.l.takeWhile bE)≠0):∃ m,(eI (bX (s.l.takeWhile bE)) (skN (s.l.takeWhile bE).length s)).2.l.length<m/\m<n/\(eI (bX (s.l.takeWhile bE)) (skN (s.l.takeWhile bE).length s)).2.l.length<s.l.length ∧
    jH n s out=jH m (eI (bX (s.l.takeWhile bE)) (skN (s.l.takeWhile bE).length s)).2 (out++[(eI (bX (s.l.takeWhile bE)) (skN (s.l.takeWhile bE).length s)).1]):=by
  match n with
  | n + 1 =>
    obtain⟨k1,k2⟩:=jQ hk;have kl:0<(s.l.takeWhile bE).length:=by
      rcases Nat.eq_zero_or_pos (s.l.takeWhile bE).length with hz | hz
      · rw[List.length_eq_zero_iff]at hz;rw[hz]at k1;exact absurd k2 (AJ (by rw[hz];exact k1.symm))
      · exact hz
    have ll:=sE (bX (s.l.takeWhile bE)) (skN (s.l.takeWhile bE).length s);rw[gK,List.length_drop]at ll;have lp:=List.length_pos_iff.2 hl;refine⟨n,by omega,by omega,by omega,?_⟩
    conv=>lhs;unfold jH
    rw[if_neg (by simp[he]),if_neg hl,if_neg hk]
theorem iR {w:World} {l:List Int} (hl:l.length<=2^30) (hb:aN l):Calls P 13 #[cF l] w (ParO w (gD l)):=by
  apply vc13;dsimp only[VC13,rt,Wt,Br,Bb,Rd,Ap,Ws,cI,nb,iq];obtain⟨W0,En,g0,b0⟩:=bZ w #[.int .i64 0,.int .i64 0] 37;rw[← En];have z0:=g0.size;have lt0:=(Array.getElem?_eq_some_iff.1 b0).1;refine(vJ hl hb).mono fun ev w1 hh=>?_;obtain⟨rfl,hs,g1⟩:=hh;refine⟨_,rfl,(fQ hs).mono fun ev w2 hh=>?_⟩;obtain⟨rfl,rfl⟩:=hh;have b1:=aE b0 g1;refine⟨_,_,rfl,fun m A n c more w'=>∃(q:Nat)(σ:Sn)(out:List Cm),Sq w' W0.heap.size σ/\aD w' w.heap.size 47 4 A n c (dY out)/\n=out.length/\w'.heap[w.heap.size]?=some (.cells #[.int .i64 0,.int .i64 0] 37 (0,0))/\w.grownBy w' none/\jH q σ out=gD l/\σ.l.length<q/\out.length+σ.l.length<=l.length/\more=(fW σ).2/\m=q,⟨_,l.length+1,_,[],hs,aD.nil _ _ _ _,rfl,b1,aB g0 g1,rfl,by simp only;omega,by simp,rfl,rfl⟩,?_⟩;rintro m A n c more w2 ⟨q,σ,out,h2,ho,rfl,b2,g2,hp,hq,ht,rfl,rfl⟩;have z2:=g2.size;refine⟨fun hm=>?_,fun hm=>?_⟩
  · have GC :σ.e=0/\σ.l≠[]:=by
      unfold fW at hm;split at hm
      · cases hm
      · rename_i he;exact⟨Decidable.not_not.1 he,of_decide_eq_true hm⟩
    obtain⟨he,DN⟩:=GC;refine(kI h2).mono fun ev w3 hh=>?_;obtain⟨rfl,g3⟩:=hh;obtain⟨W4,Lf,g4,b4⟩:=bZ w3 #[.int .i64 0,.int .i64 0] 37;rw[← Lf];have z3:=g3.size;have z4:=g4.size;have lt3:=(Array.getElem?_eq_some_iff.1 b4).1;obtain⟨V,hV,v1,v2,f⟩:=mY b4 (.int .i64 σ.p) (.int .i64 σ.q);refine⟨_,_,rfl,f.1,f.2.1,f.2.2.1,f.2.2.2,?_⟩;rw[← hV];have Lv:=aB g3 g4;have EZ:=h2.lt;have gV:w2.grownBy V none:=((Kp.of_none Lv).then v2 (fun k hk e=>e)).grown (fun k hk e=>by omega);have IJ:=h2.kept gV;refine(vD IJ he).mono fun ev w5 hh=>?_;obtain⟨rfl,h5,k5⟩:=hh;refine⟨_,rfl,(zG (fun x hx=>h2.2.2.2 x (List.takeWhile_subset _ hx))).mono fun ev w6 hh=>?_⟩;obtain⟨rfl,g6⟩:=hh;have h6:=h5.kept g6;have k26:Kp w2 w6 (fun k=>k=W0.heap.size):=((Kp.of_none gV).then k5 (fun k hk e=>e)).then (Kp.of_none g6 (S:=fun _=>False)) (fun k hk e=>e.elim);have z5:=k5.size;have zV:=v2.size;have Hv:∀ {g:Nat} {o:Obj},g≠W0.heap.size->V.heap[g]?=some o->w6.heap[g]?=some o:=fun {g o} hg ho=>by
      exact aE (by rw[k5.block g (Array.getElem?_eq_some_iff.1 ho).1 hg];exact ho) g6
    have a6:=Hv (g:=w3.heap.size) (by omega) v1;have p6:w6.heap[w.heap.size]?=some (.cells #[.int .i64 0,.int .i64 0] 37 (0,0)):=Hv (by omega) (aE b2 gV);have Hf:w.grownBy w6 none:=((Kp.of_none g2).then k26 (fun k hk e=>e)).grown (fun k hk e=>by omega);refine⟨_,rfl,fun hk=>?_,fun hk=>?_⟩
    · obtain⟨U,hU,u1,u2,f⟩:=mY (W:=w6.drew) p6 (.int .i64 σ.p) (.int .i64 σ.q);refine⟨_,aA (w:=w6.drew) a6 0,_,aA (w:=w6.drew) a6 1,f.1,f.2.1,f.2.2.1,f.2.2.2,?_⟩;rw[← hU];refine⟨_,aA u1 0,_,aA u1 1,?_⟩;rw[pM hq he DN hk]at hp;rw[← hp];exact⟨none,0,0,rfl,rfl,aD.nil _ _ _ _,((Kp.of_none (aG Hf)).then u2 (fun k hk e=>e)).grown (fun k hk e=>by omega)⟩
    · obtain⟨q',p1,p2,p3,p4⟩:=mP (out:=out) hq he DN hk;refine(vG h6).mono fun ev w7 hh=>?_;obtain⟨rfl,h7,k7⟩:=hh;generalize hL:eI (bX (σ.l.takeWhile bE)) (skN (σ.l.takeWhile bE).length σ)=L at p1 p3 p4 h7 ⊢;have k27:=k26.then k7 (fun k hk e=>e);have z7:=k27.size;have p7:w7.heap[w.heap.size]?=some (.cells #[.int .i64 0,.int .i64 0] 37 (0,0)):=by rw[k7.block _ (Array.getElem?_eq_some_iff.1 p6).1 (by show ¬ w.heap.size=_;omega)];exact p6
      have o7:aD w7 w.heap.size 47 4 A out.length c (dY out):=ho.kp k27 (fun k hk e=>by
        subst e;obtain⟨cur,DP⟩:=ho.block_type _ hk;rw[h2.1]at DP;cases DP)
      obtain⟨W8,IG,g8,b8⟩:=bZ w7 #[.int .i64 L.1.k,.int .i64 L.1.t,.int .u64 L.1.u,.int .u64 L.1.v] 47;refine⟨_,_,_,_,rfl,?_⟩;rw[← IG];have z8:=g8.size;obtain⟨A',n',c',w9,DV,o9,g9,rfl⟩:=fL (m:=1) (d:=1) (o7.kept g8) (oD b8) rfl (fun h=>by cases h) (by omega) (by omega);have far:∀ k,(Value.slice A out.length c).ownBlock=some k->w.heap.size<k/\k≠W0.heap.size:=fun k hk=>by
        have h1:=o7.block_ge k hk;obtain⟨cur,DP⟩:=o7.block_type k hk;refine⟨?_,fun e=>?_⟩
        · rcases Nat.lt_or_ge w.heap.size k with h | h
          · exact h
          · obtain rfl:k=w.heap.size:=by omega
            rw[p7]at DP;cases DP
        · subst e;rw[h7.1]at DP;cases DP
      have K9:Kp w7 w9 (fun k=>some k=(Value.slice A out.length c).ownBlock):=(Kp.of_none g8).then (Kp.of_grown g9) (fun k hk e=>e);have h9:Sq w9 W0.heap.size L.2:=h7.kp K9 (fun e=>(far _ e.symm).2 rfl);have p9:w9.heap[w.heap.size]?=some (.cells #[.int .i64 0,.int .i64 0] 37 (0,0)):=by rw[K9.block _ (Array.getElem?_eq_some_iff.1 p7).1 (fun e=>by have:=(far _ e.symm).1;omega)];exact p7
      have Gg:w.grownBy w9 none:=((Kp.of_none g2 (S:=fun k=>k=W0.heap.size∨w.heap.size<k)).then k27 (fun k hk e=>.inl e) |>.then K9 (fun k hk e=>.inr (far _ e.symm).1)).grown (fun k hk e=>by omega);refine⟨_,_,_,_,DV,(fQ h9).mono fun ev Eo hh=>?_⟩;obtain⟨rfl,rfl⟩:=hh;refine⟨_,_,rfl,q',p2,q',L.2,out++[L.1],h9,o9,by simp,p9,Gg,by rw[← p4];exact hp,p1,by simp;omega,rfl,rfl⟩
  · refine(vK h2).mono fun ev w3 hh=>?_;obtain⟨rfl,rfl⟩:=hh;have lt:=(Array.getElem?_eq_some_iff.1 b2).1;refine⟨_,rfl,fun he=>?_,fun he=>?_⟩
    · refine(kI h2).mono fun ev w4 hh=>?_;obtain⟨rfl,g4⟩:=hh;obtain⟨U,hU,u1,u2,f⟩:=mY (aE b2 g4) (.int .i64 σ.p) (.int .i64 σ.q);refine⟨_,_,rfl,f.1,f.2.1,f.2.2.1,f.2.2.2,?_⟩;rw[← hU];refine⟨_,aA u1 0,_,aA u1 1,?_⟩;rw[yV hq he]at hp;rw[← hp];exact⟨none,0,0,rfl,rfl,aD.nil _ _ _ _,((Kp.of_none (aB g2 g4)).then u2 (fun k hk e=>e)).grown (fun k hk e=>by omega)⟩
    · have he:=Decidable.not_not.1 he;have Ee:σ.l=[]:=by
        unfold fW at hm;rw[if_neg (by simp[he])]at hm;simpa using hm
      obtain⟨U,hU,u1,u2,f⟩:=mY b2 (.int .i64 0) (.int .i64 0);refine⟨f.1,f.2.1,f.2.2.1,f.2.2.2,?_⟩;rw[← hU];refine⟨_,aA u1 0,_,aA u1 1,?_⟩;rw[pL hq he Ee]at hp;rw[← hp];refine⟨A,_,c,rfl,rfl,ho.kp u2 (fun k hk e=>?_),((Kp.of_none g2).then u2 (fun k hk e=>e)).grown (fun k hk e=>by omega)⟩;obtain⟨cur,DP⟩:=ho.block_type _ hk;rw[e,b2]at DP;cases DP
def Sr(w:World)(b:Nat)(F:List Int)(s:Sn):Prop:=∃ a:Nat,w.heap[b]?=some (.cells #[.string (aO F),.int .i64 (a:Int),.int .i64 s.p,.int .i64 s.q,.int .i64 s.e] 90 (0,0))/\F.drop a=s.l/\a<=F.length/\Dc s/\aN F/\F.length<=2^30
theorem Sr.kp{w w':World}{S:Nat->Prop}{b:Nat}{F:List Int}{s:Sn}(h:Sr w b F s)(hk:Kp w w' S)(hS:¬ S b):Sr w' b F s:=by
 obtain⟨a,h1,h2⟩:=h;exact⟨a,by rw[hk.block b (Array.getElem?_eq_some_iff.1 h1).1 hS];exact h1,h2⟩
theorem Sr.kept{w w':World}{b:Nat}{F:List Int}{s:Sn}(h:Sr w b F s)(hg:w.grownBy w' none):Sr w' b F s:=h.kp (S:=fun _=>False) (Kp.of_none hg) (fun h=>h)
theorem Sr.lt{w:World}{b:Nat}{F:List Int}{s:Sn}(h:Sr w b F s):b<w.heap.size:=by
 obtain⟨a,h1,h2⟩:=h;exact(Array.getElem?_eq_some_iff.1 h1).1
theorem Sr.err{w:World}{b:Nat}{F:List Int}{s:Sn}(h:Sr w b F s):w.cell? ⟨b,4,none⟩=some (.int .i64 s.e):=by
 obtain⟨a,h1,h2⟩:=h;exact aA h1 4
theorem yT{w:World}{l:List Int}(hl:l.length<=2^30)(hb:aN l):Calls P 37 #[cF l] w fun ev w'=>ev=.returned (mF w.heap.size)/\Sr w' w.heap.size l ⟨l,1,1,0⟩/\w.grownBy w' none:=by
 apply vc37;dsimp only[VC37,nb,iq];exact⟨rfl,⟨0,heap_alloc_new w _,rfl,by omega,⟨⟨by simp only;omega,by simp only;omega⟩,⟨by simp only;omega,by simp only;omega⟩,hb⟩,hb,hl⟩,World.grownBy_alloc w _ none⟩
theorem eH{w:World}{b:Nat}{F:List Int}{s:Sn}{f:Int}(h:Sr w b F s):Calls P 40 #[mF b,.int .i64 f] w fun ev w'=>ev=.returned (.tuple #[])/\Sr w' b F (cZ f s)/\Kp w w' (fun k=>k=b):=by
 apply vc40;dsimp only[VC40,rt,Wt,Br,Rd,iq];obtain⟨a,h1,h2,h3,h4,h5⟩:=h;refine⟨_,rfl,s.e,by rw[aJ];exact aA h1 4,fun h=>⟨_,rfl,?_⟩,fun h=>⟨rfl,?_,Kp.refl w _⟩⟩
 ·rw[aJ];have:=aH h1 4 (.int .i64 f);refine⟨⟨_,aA h1 4⟩,aC h1 4,rfl,⟨a,?_,by rw[lY];exact h2,h3,h4.fail,h5⟩,cH (Kp.refl w _) rfl⟩;unfold cZ;rw[if_pos h];simpa using this
 ·unfold cZ;rw[if_neg h];exact⟨a,h1,h2,h3,h4,h5⟩
theorem iN{F l:List Int}{a i:Nat}(h:F.drop a=l)(hi:i<l.length):∃ hf:a+i<F.length,F[a+i]=l[i]:=by
 subst h;rw[List.length_drop]at hi;exact⟨by omega,(List.getElem_drop).symm⟩
theorem eU{F l:List Int}{a:Nat}(h:F.drop a=l)(ha:a<=F.length):F.length=a+l.length:=by
 subst h;rw[List.length_drop];omega
theorem nK{w:World}{b n:Nat}{F:List Int}{s:Sn}(h:Sr w b F s)(hn:n<=s.l.length):Calls P 66 #[mF b,.int .i64 (n:Int)] w fun ev w'=>ev=.returned (.tuple #[])/\Sr w' b F (skN n s)/\Kp w w' (fun k=>k=b):=by
 apply vc66;dsimp only[VC66,rt,Wt,Br,Rd,iq]
 try simp only[aI]
 obtain⟨a,h1,h2,h3,h4,h5,h6⟩:=h;have hF:=eU h2 h3;refine⟨fun m x w'=>∃ i:Nat,x=(i:Int)/\i<=n/\m=n-i/\Kp w w' (fun k=>k=b)/\w'.heap[b]?=some (.cells #[.string (aO F),.int .i64 ((a+i:Nat):Int),.int .i64 (skN i s).p,.int .i64 (skN i s).q,.int .i64 s.e] 90 (0,0)),⟨_,0,rfl,by omega,rfl,Kp.refl w _,h1⟩,?_⟩;rintro m x w1 ⟨i,rfl,hi,rfl,k1,h1⟩;have EZ:=aK F;have Ht:=(h4.skN (n:=i));have KC:=h4;have DO:(skN i s).l.length=s.l.length-i:=by rw[gK,List.length_drop]
 obtain⟨hp,hq,_⟩:=Ht;rw[DO]at hp hq;refine⟨fun DL=>?_,fun DR=>?_⟩
 ·obtain⟨hf,D7⟩:=iN h2 (i:=i) (by omega);have h1:w1.drew.heap[b]?=_:=h1;have K1:=k1.drew;generalize w1.drew=w2 at h1 K1 ⊢;refine⟨_,rfl,_,aA h1 0,_,rfl,_,by rw[aJ];exact aA h1 1,⟨by omega,by rw[EZ];omega⟩,?_⟩;rw[show(((a+i:Nat):Int)).toNat=a+i by omega,cP h5 hf,D7];have e1:=yE (i:=i) (s:=s) (by omega);refine⟨fun Ey=>?_,fun Ey=>?_⟩
  ·rw[if_pos Ey,if_pos Ey]at e1;have s1:=aH h1 2 (.int .i64 ((skN i s).p+1));have s2:=aH s1 3 (.int .i64 1);have s3:=aH s2 1 (.int .i64 (((a+i:Nat):Int)+1));refine⟨_,rfl,?_⟩;rw[aJ];refine⟨_,aA h1 2,⟨by omega,by omega⟩,_,rfl,?_⟩;rw[aJ,cV];refine⟨⟨_,aA h1 2⟩,aC h1 2,⟨_,aA s1 3⟩,aC s1 3,_,rfl,?_⟩;rw[aJ];refine⟨_,aA s2 1,⟨by omega,by omega⟩,_,rfl,?_⟩;rw[aJ];refine⟨⟨_,aA s2 1⟩,aC s2 1,⟨by omega,by omega⟩,n-(i+1),by omega,i+1,by omega,by omega,rfl,cH (cH (cH K1 rfl) rfl) rfl,?_⟩;rw[e1,show(((a+(i+1):Nat):Int))=((a+i:Nat):Int)+1 by omega];simpa using s3
  ·rw[if_neg Ey,if_neg Ey]at e1;have s1:=aH h1 3 (.int .i64 ((skN i s).q+1));have s3:=aH s1 1 (.int .i64 (((a+i:Nat):Int)+1));refine⟨_,rfl,?_⟩;rw[aJ,cV];refine⟨_,aA h1 3,⟨by omega,by omega⟩,_,rfl,?_⟩;rw[aJ,cV];refine⟨⟨_,aA h1 3⟩,aC h1 3,_,rfl,?_⟩;rw[aJ];refine⟨_,aA s1 1,⟨by omega,by omega⟩,_,rfl,?_⟩;rw[aJ];refine⟨⟨_,aA s1 1⟩,aC s1 1,⟨by omega,by omega⟩,n-(i+1),by omega,i+1,by omega,by omega,rfl,cH (cH K1 rfl) rfl,?_⟩;rw[e1,show(((a+(i+1):Nat):Int))=((a+i:Nat):Int)+1 by omega];simpa using s3
 ·have:i=n:=by omega
  subst this;refine⟨trivial,⟨a+i,by rw[vH];exact h1,by rw[gK,← h2,List.drop_drop],by omega,h4.skN,h5,h6⟩,k1⟩
theorem vU{w:World}{b:Nat}{F:List Int}{s:Sn}(h:Sr w b F s):Calls P 38 #[mF b] w fun ev w'=>ev=.returned (.tuple #[.int .u8 (fW s).1,.bool (fW s).2])/\w.grownBy w' none:=by
 apply vc38;dsimp only[VC38,rt,Br,Rd];obtain⟨a,h1,h2,h3,h4,h5,h6⟩:=h;have hF:=eU h2 h3;have gd:=aG (aF w none);have h1:w.drew.heap[b]?=_:=h1;generalize w.drew=w1 at h1 gd ⊢;unfold fW;refine⟨_,rfl,s.e,by rw[aJ];exact aA h1 4,fun he=>?_,fun he=>⟨_,rfl,_,by rw[aJ];exact aA h1 1,_,rfl,_,aA h1 0,?_⟩⟩
 ·rw[if_pos he];exact⟨rfl,gd⟩
 rw[if_neg he,aK];refine⟨fun hn=>?_,fun hn=>?_⟩
 ·have:s.l=[]:=List.length_eq_zero_iff.1 (by omega);rw[this];exact⟨rfl,gd⟩
 ·have gd:=aG gd;have h1:w1.drew.heap[b]?=_:=h1;generalize w1.drew=w2 at h1 gd ⊢;obtain⟨hf,D7⟩:=iN h2 (i:=0) (by omega);refine⟨_,rfl,_,aA h1 0,_,rfl,_,by rw[aJ];exact aA h1 1,⟨by omega,by rw[aK];omega⟩,?_,gd⟩;rw[show((a:Nat):Int).toNat=a+0 by omega,cP h5 hf,D7];obtain⟨x,r,hl⟩:∃ x r,s.l=x ::r:=by
   cases hl:s.l with
   | nil=>rw[hl]at hF;simp at hF;omega
   | cons x r=>exact⟨x,r,rfl⟩
  simp[hl]
theorem nJ {w:World} {b:Nat} {F p:List Int} {s:Sn} (h:Sr w b F s) (hp:aN p) (Hn:p.length<=2^30):Calls P 41 #[mF b,.string (aO p)] w fun ev w'=>ev=.returned (.bool (bF p s).1)/\Sr w' b F (bF p s).2/\Kp w w' (fun k=>k=b):=by
  apply vc41;dsimp only[VC41,rb,Br,Rd,cU,iq]
  try simp only[aI]
  unfold bF;refine⟨_,rfl,s.e,by rw[aJ];exact h.err,fun he=>?_,fun he=>?_⟩
  · rw[if_pos he];exact⟨rfl,h,Kp.refl w _⟩
  rw[if_neg he];refine⟨fun m x w'=>∃ i:Nat,x=(i:Int)/\i<=p.length/\m=p.length-i/\Sr w' b F s/\Kp w w' (fun k=>k=b)/\p.take i=s.l.take i/\i<=s.l.length,⟨_,0,rfl,by omega,rfl,h,Kp.refl w _,rfl,by omega⟩,?_⟩;rintro m x w1 ⟨i,rfl,hi,rfl,h1,k1,Ej,Fi⟩;rw[aK];refine⟨fun DL=>?_,fun DR=>?_⟩
  · have hr:=h1;obtain⟨a,h1,h2,h3,h4,h5,h6⟩:=h1;have hF:=eU h2 h3;have hr:Sr w1.drew b F s:=hr;have K1:=k1.drew;have h1:w1.drew.heap[b]?=_:=h1;generalize w1.drew=w2 at h1 hr K1 ⊢;refine⟨_,rfl,_,by rw[aJ];exact aA h1 1,⟨by omega,by omega⟩,_,rfl,_,aA h1 0,?_⟩;rw[aK];refine⟨fun hn=>?_,fun hn=>?_⟩
    · obtain rfl:i=s.l.length:=by omega
      rw[List.take_length]at Ej;have e1:p.isPrefixOf s.l=false:=by
        rw[Bool.eq_false_iff];intro e;have:=(List.isPrefixOf_iff_prefix.1 e).length_le;omega
      have e2:s.l.isPrefixOf p=true:=by
        rw[List.isPrefixOf_iff_prefix,← Ej];exact List.take_prefix _ _
      rw[e1,e2];refine(eH hr).mono fun ev w3 hh=>?_;obtain⟨rfl,r1,r2⟩:=hh;exact⟨rfl,rfl,r1,K1.then r2 (fun _ _ e=>e)⟩
    · have hr:Sr w2.drew b F s:=hr;have K1:=K1.drew;have h1:w2.drew.heap[b]?=_:=h1;generalize w2.drew=w3 at h1 hr K1 ⊢;obtain⟨hf,D7⟩:=iN h2 (i:=i) (by omega);refine⟨_,rfl,_,aA h1 0,_,rfl,_,by rw[aJ];exact aA h1 1,⟨by omega,by omega⟩,⟨by omega,by rw[aK];omega⟩,⟨by omega,by omega⟩,?_⟩;rw[show((a:Int)+(i:Int)).toNat=a+i by omega,show((i:Nat):Int).toNat=i by omega,cP h5 hf,D7,cP hp (by omega)];have Ir:i<s.l.length:=by omega
      refine⟨fun DN=>?_,fun DN=>?_⟩
      · have e1:p.isPrefixOf s.l=false:=by
          rw[Bool.eq_false_iff];intro e;exact DN ((List.isPrefixOf_iff_prefix.1 e).getElem (by omega)).symm
        have e2:s.l.isPrefixOf p=false:=by
          rw[Bool.eq_false_iff];intro e;exact DN ((List.isPrefixOf_iff_prefix.1 e).getElem (by omega))
        rw[e1,e2];refine(eH hr).mono fun ev w4 hh=>?_;obtain⟨rfl,r1,r2⟩:=hh;exact⟨rfl,rfl,r1,K1.then r2 (fun _ _ e=>e)⟩
      · refine⟨⟨by omega,by omega⟩,p.length-(i+1),by omega,i+1,by omega,by omega,rfl,hr,K1,?_,by omega⟩;rw[List.take_succ_eq_append_getElem (show i<p.length by omega),List.take_succ_eq_append_getElem Ir,Ej,Decidable.not_not.1 DN]
  · obtain rfl:i=p.length:=by omega
    rw[List.take_length]at Ej;have e1:p.isPrefixOf s.l=true:=by rw[List.isPrefixOf_iff_prefix,Ej];exact List.take_prefix _ _
    rw[if_pos e1];refine(nK h1 Fi).mono fun ev w2 hh=>?_;obtain⟨rfl,r1,r2⟩:=hh;exact⟨rfl,rfl,r1,k1.then r2 (fun _ _ e=>e)⟩
theorem nL{w:World}{b:Nat}{F:List Int}{s:Sn}{x:Int}(h:Sr w b F s)(hx:0<=x/\x<=255):Calls P 42 #[mF b,.int .u8 x] w fun ev w'=>ev=.returned (.bool (bF [x] s).1)/\Sr w' b F (bF [x] s).2/\Kp w w' (fun k=>k=b):=by
 apply vc42;dsimp only[VC42,cB,nb];have g0:=World.grownBy_alloc w (.cells #[.int .u8 x] 5) none;refine⟨_,Ct hx,(nJ (p:=[x]) (h.kept g0) (fun y hy=>by simp at hy;subst hy;exact hx) (by simp)).mono fun ev w1 hh=>?_⟩;obtain⟨rfl,h1,k1⟩:=hh;exact⟨_,rfl,rfl,h1,(Kp.of_none g0).then k1 (fun _ _ e=>e)⟩
theorem tR{w:World}{x:Int}:Calls P 67 #[.int .u8 x] w fun ev w'=>ev=.returned (.bool (bQ x))/\w'=w:=by
 apply vc67;dsimp only[VC67,rb,Br];unfold bQ;refine⟨fun h=>⟨?_,rfl⟩,fun h=>⟨?_,rfl⟩⟩
 ·congr 2;rw[decide_eq_decide];omega
 ·congr 2;rw[eq_comm,decide_eq_false_iff_not];omega
theorem qQ{w:World}{b:Nat}{F:List Int}{s:Sn}{most:Int}(h:Sr w b F s)(hm:0<=most/\most<=18446744073709551615):Calls P 43 #[mF b,.int .u64 most] w fun ev w'=>ev=.returned (.int .u64 (cW most s).1)/\Sr w' b F (cW most s).2/\Kp w w' (fun k=>k=b):=by
 apply vc43;dsimp only[VC43,Br,Bb,Rd,cB,cU,iq]
 try simp only[aI]
 refine⟨_,rfl,s.e,by rw[aJ];exact h.err,fun he=>?_,fun he=>?_⟩
 ·unfold cW;rw[if_pos he];exact⟨rfl,h,Kp.refl w _⟩
 have Gf:s.l.length<=2^30/\aN s.l:=by
  obtain⟨a,h1,h2,h3,h4,h5,h6⟩:=h;have:=eU h2 h3;exact⟨by omega,h4.2.2⟩
 obtain⟨D,hD⟩:∃ D,D=(s.l.takeWhile bQ).length:=⟨_,rfl⟩;have G9:D<=s.l.length:=by rw[hD];exact iB _ _
 have Ee:s.l.takeWhile bQ=[]↔D=0:=by rw[hD,List.length_eq_zero_iff]
 refine⟨fun m n w'=>Sr w' b F s/\Kp w w' (fun k=>k=b)/\∃ i:Nat,n=(i:Int)/\i<=D/\m=D-i,⟨_,h,Kp.refl w _,0,rfl,by omega,rfl⟩,?_⟩;rintro m n w1 ⟨h1,k1,i,rfl,hi,rfl⟩;refine⟨fun x w'=>(Sr w' b F s/\Kp w w' (fun k=>k=b))/\x=decide (i<D),?_,?_⟩
 ·have hr:Sr w1.drew b F s:=h1;have K1:=k1.drew;obtain⟨a,h1,h2,h3,h4,h5,h6⟩:=h1;have hF:=eU h2 h3;have h1:w1.drew.heap[b]?=_:=h1;generalize w1.drew=w2 at h1 hr K1 ⊢;refine⟨_,rfl,_,by rw[aJ];exact aA h1 1,⟨by omega,by omega⟩,_,rfl,_,aA h1 0,?_⟩;rw[aK];refine⟨fun DL=>⟨_,rfl,_,aA h1 0,_,rfl,_,by rw[aJ];exact aA h1 1,⟨by omega,by omega⟩,⟨by omega,by rw[aK];omega⟩,?_⟩,fun DL=>⟨⟨hr,K1⟩,?_⟩⟩
  ·refine tR.mono fun ev w3 hh=>?_;obtain⟨rfl,rfl⟩:=hh;refine⟨_,rfl,⟨hr,K1⟩,?_⟩;obtain⟨hf,D7⟩:=iN h2 (i:=i) (by omega);rw[show((a:Int)+(i:Int)).toNat=a+i by omega,cP h5 hf,D7,hD];exact iS bQ (by omega) (by omega)
  ·symm;rw[decide_eq_false_iff_not];omega
 rintro x w2 ⟨⟨h2,k2⟩,rfl⟩;refine⟨fun hx=>?_,fun hx=>?_⟩
 ·have hx:i<D:=of_decide_eq_true hx;exact⟨⟨by omega,by omega⟩,D-(i+1),by omega,h2,k2,i+1,by omega,by omega,rfl⟩
 have hx:¬ i<D:=of_decide_eq_false hx;obtain rfl:i=D:=by omega
 -- where it is wrong
 refine⟨fun w'=>Sr w' b F s/\Kp w w' (fun k=>k=b)/\cW most s=(match qR most 0 (s.l.takeWhile bQ)with | none=>(0,cZ 22 s) | some v=>(v,skN i s)),⟨fun x w'=>(Sr w' b F s/\Kp w w' (fun k=>k=b))/\x=decide (s.l=[]),⟨fun h0=>?_,fun h0=>⟨⟨h2,k2.drew⟩,?_⟩⟩,?_⟩,?_⟩
 ·have hr:Sr w2.drew b F s:=h2;have K2:=k2.drew;obtain⟨a,h1,h2,h3,h4,h5,h6⟩:=h2;have hF:=eU h2 h3;have h1:w2.drew.heap[b]?=_:=h1;generalize w2.drew=w3 at h1 hr K2 ⊢;refine⟨_,rfl,_,by rw[aJ];exact aA h1 1,_,rfl,_,aA h1 0,⟨hr,K2⟩,?_⟩;rw[aK,decide_eq_decide];constructor
  ·intro e;exact List.length_eq_zero_iff.1 (by omega)
  ·intro e;rw[e]at hF;simp at hF;omega
 ·symm;rw[decide_eq_false_iff_not]
  intro e;rw[e]at G9;simp at G9;omega
 ·rintro x w3 ⟨⟨h3,k3⟩,rfl⟩;refine⟨fun hx=>?_,fun hx=>?_⟩
  ·have hn:s.l=[]:=of_decide_eq_true hx;refine(eH h3).mono fun ev w4 hh=>?_;obtain⟨rfl,r1,r2⟩:=hh;unfold cW;rw[if_neg he,if_pos hn];exact⟨rfl,rfl,r1,k3.then r2 (fun _ _ e=>e)⟩
  have hn:¬ s.l=[]:=of_decide_eq_false hx;have Ed:=List.length_pos_iff.2 hn;refine⟨fun x w'=>(Sr w' b F s/\Kp w w' (fun k=>k=b))/\x=decide (s.l.takeWhile bQ=[]∨1<(s.l.takeWhile bQ).length/\s.l.head?=some 48),⟨fun h0=>⟨⟨h3,k3.drew⟩,?_⟩,fun h0=>⟨fun h1=>?_,fun h1=>⟨⟨h3,k3.drew⟩,?_⟩⟩⟩,?_⟩
  ·symm;rw[decide_eq_true_iff];exact .inl (Ee.2 (by omega))
  ·have hr:Sr w3.drew b F s:=h3;have K3:=k3.drew;obtain⟨a,q1,q2,q3,q4,q5,q6⟩:=h3;have hF:=eU q2 q3;have q1:w3.drew.heap[b]?=_:=q1;generalize w3.drew=w4 at q1 hr K3 ⊢;obtain⟨hf,D7⟩:=iN q2 (i:=0) (by omega);refine⟨_,rfl,_,aA q1 0,_,rfl,_,by rw[aJ];exact aA q1 1,⟨by omega,by rw[aK];omega⟩,⟨hr,K3⟩,?_⟩;rw[show((a:Nat):Int).toNat=a+0 by omega,cP q5 hf,D7,decide_eq_decide];have GM:s.l.head?=some s.l[0]:=by rw[List.head?_eq_getElem?,List.getElem?_eq_getElem Ed]
   constructor
   ·intro e;exact .inr ⟨by omega,by rw[GM,e]⟩
   ·rintro(e | ⟨_,e⟩)
    ·have:=Ee.1 e;omega
    ·rw[GM]at e;exact Option.some.inj e
  ·symm;rw[decide_eq_false_iff_not]
   rintro(e | ⟨e,_⟩)
   ·have:=Ee.1 e;omega
   ·omega
  ·rintro x w4 ⟨⟨h4,k4⟩,rfl⟩;refine⟨fun hx=>?_,fun hx=>⟨h4,k4,?_⟩⟩
   ·refine(eH h4).mono fun ev w5 hh=>?_;obtain⟨rfl,r1,r2⟩:=hh;unfold cW;rw[if_neg he,if_neg hn,if_pos (of_decide_eq_true hx)];exact⟨rfl,rfl,r1,k4.then r2 (fun _ _ e=>e)⟩
   ·unfold cW;rw[if_neg he,if_neg hn,if_neg (of_decide_eq_false hx),hD];rfl
 rintro w3 ⟨h3,k3,DM⟩;refine⟨fun m v n w'=>Sr w' b F s/\Kp w w' (fun k=>k=b)/\∃ j:Nat,n=(j:Int)/\j<=i/\m=i-j/\(0<=v/\v<=most)/\cW most s=(match qR most v ((s.l.takeWhile bQ).drop j)with | none=>(0,cZ 22 s) | some v=>(v,skN i s)),⟨_,h3,k3,0,rfl,by omega,rfl,⟨by omega,by omega⟩,by rw[List.drop_zero];exact DM⟩,?_⟩;rintro m v n w4 ⟨h4,k4,j,rfl,hj,rfl,hv,DM⟩;refine⟨fun DL=>?_,fun DR=>?_⟩
 ·have hr:Sr w4.drew b F s:=h4;have K4:=k4.drew;obtain⟨a,q1,q2,q3,q4,q5,q6⟩:=h4;have hF:=eU q2 q3;have q1:w4.drew.heap[b]?=_:=q1;generalize w4.drew=w5 at q1 hr K4 ⊢;have EB:j<s.l.length:=by omega
  have GJ:j<(s.l.takeWhile bQ).length:=by omega
  obtain⟨hf,D7⟩:=iN q2 EB;have D6:bQ s.l[j]=true:=by rw[iS bQ (by omega) EB,decide_eq_true_iff];omega
  unfold bQ at D6;simp only[decide_eq_true_eq]at D6;rw[sD GJ,vF GJ]at DM;refine⟨_,rfl,_,aA q1 0,_,rfl,_,by rw[aJ];exact aA q1 1,⟨by omega,by omega⟩,⟨by omega,by rw[aK];omega⟩,?_⟩;rw[show((a:Int)+(j:Int)).toNat=a+j by omega,cP q5 hf,D7];generalize s.l[j]=y at D6 DM ⊢;refine⟨⟨by omega,by omega⟩,⟨by omega,by omega⟩,fun x w'=>(Sr w' b F s/\Kp w w' (fun k=>k=b))/\x=decide (most<y-48∨(most-(y-48)) / 10<v),⟨fun h1=>⟨⟨hr,K4⟩,?_⟩,fun h1=>⟨⟨by omega,by omega⟩,⟨by omega,by omega,by omega,by omega⟩,⟨hr,K4⟩,?_⟩⟩,?_⟩
  ·symm;rw[decide_eq_true_iff];exact .inl (by omega)
  ·rw[decide_eq_decide];omega
  ·rintro x w6 ⟨⟨h6,k6⟩,rfl⟩;refine⟨fun hx=>?_,fun hx=>?_⟩
   ·rw[if_pos (of_decide_eq_true hx)]at DM;rw[DM];refine(eH h6).mono fun ev w7 hh=>?_;obtain⟨rfl,r1,r2⟩:=hh;exact⟨rfl,rfl,r1,k6.then r2 (fun _ _ e=>e)⟩
   ·have hx:=of_decide_eq_false hx;rw[if_neg hx]at DM;refine⟨⟨by omega,by omega⟩,⟨by omega,by omega⟩,⟨by omega,by omega⟩,i-(j+1),by omega,h6,k6,j+1,by omega,by omega,rfl,⟨by omega,by omega⟩,?_⟩;rw[show 10*v+(y-48)=v*10+(y-48) by omega];exact DM
 ·obtain rfl:j=i:=by omega
  rw[List.drop_eq_nil_of_le (by omega)]at DM;have DM:cW most s=(v,skN j s):=DM;rw[DM];refine(nK h4 G9).mono fun ev w5 hh=>?_;obtain⟨rfl,r1,r2⟩:=hh;exact⟨rfl,rfl,r1,k4.then r2 (fun _ _ e=>e)⟩
def xW:Array Value:=#[cF (eJ 1),cF (eJ 2),cF (eJ 3),cF (eJ 4),cF (eJ 5),cF (eJ 6)]
theorem mJ{i:Nat}(h:i<6):xW[i]?=some (cF (eJ ((i:Int)+1))):=by
 match i,h with
 | 0,_=>rfl
 | 1,_=>rfl
 | 2,_=>rfl
 | 3,_=>rfl
 | 4,_=>rfl
 | 5,_=>rfl
theorem iU{w:World}:Calls P 22 #[] w fun ev w'=>ev=.returned (.slice (some ⟨w.heap.size,0,none⟩) 6 6)/\w'.heap[w.heap.size]?=some (.cells xW 9 (0,0))/\w.grownBy w' none:=by
 apply vc22;dsimp only[VC22,nb];exact⟨rfl,heap_alloc_new w _,World.grownBy_alloc w _ none⟩
theorem vL{w:World}{l:List Int}(hb:aN l)(hl:l.length<=2^30):Calls P 39 #[cF l] w fun ev w'=>ev=.returned (.int .i64 (bX (l.takeWhile bE)))/\w.grownBy w' none:=by
 apply vc39;dsimp only[VC39,Br,Bb,Ix,Eg,cS,iq]
 try simp only[aI]
 rw[aK];have hW:=iB bE l;obtain⟨W,FS⟩:∃ W,W=(l.takeWhile bE).length:=⟨_,rfl⟩;refine⟨fun n w'=>w'=w/\n=(W:Int),⟨fun m n w'=>w'=w/\∃ j:Nat,n=(j:Int)/\j<=W/\m=W-j,⟨_,rfl,0,rfl,by omega,rfl⟩,?_⟩,?_⟩
 ·rintro m n w1 ⟨hw,j,rfl,hj,rfl⟩;obtain rfl:w=w1:=hw.symm;have tj:((j:Nat):Int).toNat=j:=by omega
  rw[tj];refine⟨fun x w'=>w'=w/\x=decide (j<W),⟨fun h1=>⟨⟨by omega,by omega⟩,?_⟩,fun h1=>⟨rfl,?_⟩⟩,?_⟩
  ·rw[cP hb (show j<l.length by omega)];have EF:=iS bE (l:=l) (i:=j) (by omega) (by omega);rw[← FS]at EF;refine⟨fun h2=>⟨⟨by omega,by omega⟩,rfl,?_⟩,fun h2=>⟨rfl,?_⟩⟩
   ·rw[← EF];unfold bE;rw[decide_eq_decide];omega
   ·rw[← EF];unfold bE;symm;rw[decide_eq_false_iff_not];omega
  ·symm;rw[decide_eq_false_iff_not];omega
  ·rintro x w1 ⟨hw,rfl⟩;obtain rfl:w=w1:=hw.symm;refine⟨fun hx=>?_,fun hx=>⟨rfl,?_⟩⟩
   ·have hx:j<W:=of_decide_eq_true hx;exact⟨⟨by omega,by omega⟩,W-(j+1),by omega,rfl,j+1,by omega,by omega,rfl⟩
   ·have hx:=of_decide_eq_false hx;omega
 rintro n w1 ⟨hw,rfl⟩;obtain rfl:w=w1:=hw.symm;have tW:((W:Nat):Int).toNat=W:=by omega
 have IB:(aO l).extract 0 W=aO (l.takeWhile bE):=by
  rw[kA,List.drop_zero];have:=fC bE l
  conv=>lhs;rw[this,List.take_left' FS.symm]
 rw[tW,IB];refine iU.mono fun ev w1 hh=>?_;obtain⟨rfl,JJ,g1⟩:=hh;refine⟨_,_,_,rfl,fun m n w'=>w'.heap[w.heap.size]?=some (.cells xW 9 (0,0))/\w.grownBy w' none/\∃ i:Nat,n=(i:Int)/\i<=6/\m=6-i/\∀ k:Int,1<=k->k<=(i:Int)->eJ k≠l.takeWhile bE,⟨_,JJ,g1,0,rfl,by omega,rfl,fun k h1 h2=>by omega⟩,?_⟩;rintro m n w2 ⟨JI,g2,i,rfl,hi,rfl,hn⟩;have ti:((i:Nat):Int).toNat=i:=by omega
 rw[ti];have HN:aN (l.takeWhile bE):=fun x hx=>hb x (List.takeWhile_subset _ hx);refine⟨fun DL=>?_,fun DR=>⟨?_,g2⟩⟩
 ·have hc:=mJ (i:=i) (by omega);refine⟨_,rfl,by omega,by omega,_,by rw[bB,aA (w:=w2.drew) JI];exact hc,⟨by omega,by omega⟩,_,fun w=>iE _ _ _ _ w,fun h=>⟨⟨by omega,by omega⟩,?_,aG g2⟩,fun h=>⟨⟨by omega,by omega⟩,6-(i+1),by omega,JI,aG g2,i+1,by omega,by omega,rfl,fun k h1 h2=>?_⟩⟩
  ·have h:=mO (pW _) HN (of_decide_eq_true h);rw[wG (k:=(i:Int)+1) (by unfold iI;omega) h]
  ·by_cases hk:k=(i:Int)+1
   ·subst hk;intro e;exact of_decide_eq_false h (by rw[e])
   ·exact hn k h1 (by omega)
 ·congr 2;by_cases h:bX (l.takeWhile bE)=0
  ·exact h.symm
  ·obtain⟨h1,h2⟩:=jQ h;exact absurd h1.symm (hn _ (by omega) (by omega))
theorem tL{w:World}{l:List Int}(hl:l.length<=2^30)(hb:aN l):Calls P 14 #[cF l] w (ParO w (gD l)):=by
 apply vc14;dsimp only[VC14,rt,Wt,Br,Bb,Rd,Rc,Ix,Ap,Ws,cI,cB,cS,cU,nb,iq]
 try simp only[aI]
 obtain⟨W0,En,g0,b0⟩:=bZ w #[.int .i64 0,.int .i64 0] 37;rw[← En];have z0:=g0.size;have lt0:=(Array.getElem?_eq_some_iff.1 b0).1;refine(yT hl hb).mono fun ev w1 hh=>?_;obtain⟨rfl,hs,g1⟩:=hh;have b1:=aE b0 g1;let Pl:World->Prop:=fun w'=>w'.heap[w.heap.size]?=some (.cells #[.int .i64 0,.int .i64 0] 37 (0,0));refine⟨_,rfl,fun w'=>∃ σ:Sn,Sr w' W0.heap.size l σ/\Pl w'/\w.grownBy w' none/\gD l=([],σ.p,σ.q,σ.e),⟨fun m A n c w'=>∃(σ:Sn)(out:List Cm),Sr w' W0.heap.size l σ/\aD w' w.heap.size 47 4 A n c (dY out)/\n=out.length/\Pl w'/\w.grownBy w' none/\jH m σ out=gD l/\σ.l.length<m/\out.length+σ.l.length<=l.length,⟨l.length+1,_,[],hs,aD.nil _ _ _ _,rfl,b1,aB g0 g1,rfl,by simp only;omega,by simp⟩,?_⟩,?_⟩
 ·rintro m A n c w2 ⟨σ,out,h2,ho,rfl,b2,g2,hp,hq,ht⟩;have b2:w2.heap[w.heap.size]?=_:=b2;have z2:=g2.size;refine⟨_,rfl,σ.e,by rw[aJ];exact h2.err,fun he=>?_,fun he=>⟨σ,h2,b2,g2,?_⟩⟩
  ·refine(vU h2).mono fun ev w3 hh=>?_;obtain⟨rfl,g3⟩:=hh;have h3:=h2.kept g3;have z3:=g3.size;have p3:w3.heap[w.heap.size]?=_:=aE b2 g3;have Ho:(fW σ).2=decide (σ.l≠[]):=by unfold fW;rw[if_neg (by simp[he])]
   refine⟨_,_,rfl,fun hm=>?_,fun hm=>?_⟩
   ·rw[Ho]at hm;have Ee:σ.l=[]:=by simpa using hm
    obtain⟨U,hU,u1,u2,f⟩:=mY p3 (.int .i64 0) (.int .i64 0);refine⟨f.1,f.2.1,f.2.2.1,f.2.2.2,?_⟩;rw[← hU];refine⟨_,aA u1 0,_,aA u1 1,?_⟩;rw[pL hq he Ee]at hp;rw[← hp];refine⟨A,_,c,rfl,rfl,(ho.kept g3).kp u2 (fun k hk e=>?_),((Kp.of_none (aB g2 g3)).then u2 (fun k hk e=>e)).grown (fun k hk e=>by omega)⟩;obtain⟨cur,DP⟩:=ho.block_type _ hk;rw[e,b2]at DP;cases DP
   ·rw[Ho]at hm;have DN:σ.l≠[]:=by simpa using hm
    obtain⟨a,q1,q2,q3,q4,q5,q6⟩:=id h3;have hF:=eU q2 q3;refine⟨_,rfl,_,by rw[aJ];exact aA q1 1,⟨by omega,by rw[aK];omega⟩,?_⟩;rw[show((a:Nat):Int).toNat=a by omega,aK,kA,List.take_length,q2];refine(vL q4.2.2 (by omega)).mono fun ev w4 hh=>?_;obtain⟨rfl,g4⟩:=hh;refine⟨_,rfl,?_⟩;generalize hk:bX (σ.l.takeWhile bE)=k;have z4:=g4.size;obtain⟨W5,Le,g5,b5⟩:=bZ w4 #[.int .i64 0,.int .i64 0,.int .u64 0,.int .u64 0] 47;rw[← Le];obtain⟨V,hV,v1,v2,f⟩:=gT b5 (.int .i64 k) (.int .i64 0) (.int .u64 0) (.int .u64 0);refine⟨f.1,f.2.1,f.2.2.1,f.2.2.2.1,f.2.2.2.2.1,f.2.2.2.2.2.1,f.2.2.2.2.2.2.1,f.2.2.2.2.2.2.2,?_⟩;rw[← hV];have z5:=g5.size;have lt5:=(Array.getElem?_eq_some_iff.1 b5).1;have Lw:=aB (aB g3 g4) g5;have gV:w2.grownBy V none:=((Kp.of_none Lw).then v2 (fun k hk e=>e)).grown (fun k hk e=>by omega);have zV:=v2.size;have LC:=h2.lt
    -- what the line's middle keeps
    let Z:Sn->Cm->World->Prop:=fun σ c w'=>Sr w' W0.heap.size l σ/\Kp w2 w' (fun k=>k=W0.heap.size)/\w'.heap[w4.heap.size]?=some (.cells #[.int .i64 c.k,.int .i64 c.t,.int .u64 c.u,.int .u64 c.v] 47 (0,0));have zC:∀ {σ c w1},Z σ c w1->∀ {w':World} {σ':Sn},Sr w' W0.heap.size l σ'->Kp w1 w' (fun k=>k=W0.heap.size)->Z σ' c w':=fun {σ c w1} hz {w' σ'} hs hK=>by
     obtain⟨r1,r2,r3⟩:=hz;have:=(Array.getElem?_eq_some_iff.1 r3).1;exact⟨hs,r2.then hK (fun _ _ e=>e),by rw[hK.block _ this (by show ¬ w4.heap.size=_;omega)];exact r3⟩
    have zS:∀ {σ c w1},Z σ c w1->(∀ x,Z σ { c with t:=x } (w1.setCell ⟨w4.heap.size,1,none⟩ (.int .i64 x)))/\(∀ x,Z σ { c with u:=x } (w1.setCell ⟨w4.heap.size,2,none⟩ (.int .u64 x)))/\∀ x,Z σ { c with v:=x } (w1.setCell ⟨w4.heap.size,3,none⟩ (.int .u64 x)):=fun {σ c w1} hz=>by
     obtain⟨r1,r2,r3⟩:=hz;have s5:=Au r3;have far:∀(j:Nat)(u:Value),Sr (w1.setCell ⟨w4.heap.size,j,none⟩ u) W0.heap.size l σ:=fun j u=>r1.kp (cH (j:=j) (u:=u) (Kp.refl w1 (fun k=>k=w4.heap.size)) rfl) (by show ¬ W0.heap.size=_;omega);exact⟨fun x=>⟨far _ _,rR r2 (by omega),s5.1 _⟩,fun x=>⟨far _ _,rR r2 (by omega),s5.2.1 _⟩,fun x=>⟨far _ _,rR r2 (by omega),s5.2.2 _⟩⟩
    have zW:∀ {σ c w1},Z σ c w1->∀ j,j<4->(∃ u,w1.cell? ⟨w4.heap.size,j,none⟩=some u)/\w1.frozen? ⟨w4.heap.size,j,none⟩=false:=fun {σ c w1} hz j hj=>by
     obtain⟨r1,r2,r3⟩:=hz;refine⟨?_,aC r3 j⟩;rw[aA r3 j]
     match j,hj with
     | 0,_=>exact⟨_,rfl⟩
     | 1,_=>exact⟨_,rfl⟩
     | 2,_=>exact⟨_,rfl⟩
     | 3,_=>exact⟨_,rfl⟩
    have zP:∀ {σ c w1},Z σ c w1->Pl w1/\w.grownBy w1 none:=fun {σ c w1} hz=>by
     obtain⟨r1,r2,r3⟩:=hz;refine⟨(r2.block _ (by omega) (by show ¬ w.heap.size=_;omega)).trans b2,((Kp.of_none g2).then r2 (fun k hk e=>e)).grown (fun k hk e=>by omega)⟩
    have zV0:Z σ ⟨k,0,0,0⟩ V:=⟨h2.kept gV,Kp.of_none gV,v1⟩;refine⟨_,aA v1 0,fun Gd=>?_,fun Gd=>?_⟩
    ·refine(eH zV0.1).mono fun ev w6 hh=>?_;obtain⟨rfl,r1,r2⟩:=hh;have hz:=zC zV0 r1 r2;refine⟨rfl,_,r1,(zP hz).1,(zP hz).2,?_⟩;rw[← hp,pM hq he DN (by rw[hk];exact Gd)];unfold cZ;rw[if_pos he]
    ·obtain⟨q',p1,p2,p3',p4⟩:=mP (out:=out) hq he DN (by rw[hk];exact Gd);rw[hk]at p1 p3' p4;have Fm:=jQ (w:=σ.l.takeWhile bE) (by rw[hk];exact Gd);rw[hk]at Fm;refine⟨fun u=>u.heap[w4.heap.size]?=some (.cells #[.int .i64 k,.int .i64 0,.int .u64 0,.int .u64 0] 47 (0,0)),v1,iU.mono fun ev w6 hh=>?_⟩;obtain⟨rfl,Hv,g6⟩:=hh;have zV0:Z σ ⟨k,0,0,0⟩ V.drew:=zC zV0 zV0.1 (Kp.refl V _).drew;have z6:=zC zV0 (zV0.1.kept g6) (Kp.of_none g6);have LO:1<=k/\k<=6:=by have:=Fm.2;omega
     refine⟨_,_,_,rfl,z6.2.2,k,fun u hu=>aA hu 0,⟨by omega,by omega⟩,_,rfl,by omega,by omega,_,by
      rw[bB,aA Hv,mJ (by omega),show((k-1).toNat:Int)+1=k by omega],?_⟩
     refine(nJ z6.1 (pW k) (by
      have:=Dy (k:=k);unfold eJ
      repeat' split
      all_goals decide)).mono fun ev w7 hh=>?_
     obtain⟨rfl,r1,r2⟩:=hh;have Gk:bF (eJ k) σ=(true,skN (σ.l.takeWhile bE).length σ):=by
      rw[← Fm.1];exact uY he (fC bE σ.l)
     rw[Gk]at r1;have r1:Sr w7 W0.heap.size l (skN (σ.l.takeWhile bE).length σ):=r1;have z7:=zC z6 r1 r2;generalize skN (σ.l.takeWhile bE).length σ=s at r1 z7 p1 p3' p4
     -- ' ' and a number
     have zN:∀ {σ c w1 most},Z σ c w1->(0<=most/\most<=18446744073709551615)->∀ {R:Ending->World->Prop},(∀ w',Z (cW most (bF [32] σ).2).2 c w'->R (.returned (.int .u64 (cW most (bF [32] σ).2).1)) w')->Calls P 42 #[mF W0.heap.size,.int .u8 32] w1 fun ev w'=>∃ x:Bool,ev=.returned (.bool x)/\Calls P 43 #[mF W0.heap.size,.int .u64 most] w' R:=fun {σ c w1 most} hz hm {R} hR=>by
      refine(nL hz.1 (x:=32) (by omega)).mono fun ev w2 hh=>?_;obtain⟨rfl,r1,r2⟩:=hh;refine⟨_,rfl,(qQ r1 hm).mono fun ev w3 hh=>?_⟩;obtain⟨rfl,r3,r4⟩:=hh;exact hR w3 (zC (zC hz r1 r2) r3 r4)
     refine⟨_,rfl,z7.2.2,k,aA z7.2.2 0,fun w'=>Z (eY k s).2 (eY k s).1 w',⟨fun h1=>?_,fun h1=>?_⟩,?_⟩
     ·refine zN z7 (by omega) fun w8 hz=>?_;have hr:=pR (m:=9223372036854775807) (s:=(bF [32] s).2) (by decide);refine⟨_,rfl,⟨by omega,by omega⟩,(zW hz 1 (by omega)).1,(zW hz 1 (by omega)).2,?_⟩;unfold eY;rw[if_pos h1];exact(zS hz).1 _
     ·refine⟨fun x w'=>w'=w7/\x=decide (k=3∨k=6),⟨fun h=>⟨rfl,by rw[decide_eq_decide];omega⟩,fun h=>⟨rfl,by rw[decide_eq_decide];omega⟩⟩,?_⟩;rintro x w8 ⟨hw,rfl⟩;obtain rfl:w7=w8:=hw.symm;refine⟨fun h3=>?_,fun h3=>?_⟩
      ·have h3:=of_decide_eq_true h3;refine zN z7 (by omega) fun w8 hz=>?_;refine⟨_,rfl,(zW hz 2 (by omega)).1,(zW hz 2 (by omega)).2,?_⟩;unfold eY;rw[if_neg h1,if_neg (by omega),if_pos h3];exact(zS hz).2.1 _
      have h3:=of_decide_eq_false h3;refine⟨fun x w'=>w'=w7/\x=decide (k=2∨k=5),⟨fun h=>⟨rfl,by rw[decide_eq_decide];omega⟩,fun h=>⟨rfl,by rw[decide_eq_decide];omega⟩⟩,?_⟩;rintro x w8 ⟨hw,rfl⟩;obtain rfl:w7=w8:=hw.symm;refine⟨fun h2=>?_,fun h2=>?_⟩
      ·refine zN z7 (by omega) fun w8 hz=>?_;refine⟨_,rfl,(zW hz 2 (by omega)).1,(zW hz 2 (by omega)).2,?_⟩;refine zN ((zS hz).2.1 _) (by omega) fun w9 hz=>?_;refine⟨_,rfl,(zW hz 3 (by omega)).1,(zW hz 3 (by omega)).2,?_⟩;unfold eY;rw[if_neg h1,if_pos (of_decide_eq_true h2)];exact(zS hz).2.2 _
      ·unfold eY;rw[if_neg h1,if_neg (of_decide_eq_false h2),if_neg h3];exact z7
     ·rintro w8 hz;refine(nL hz.1 (x:=10) (by omega)).mono fun ev w9 hh=>?_;obtain⟨rfl,r3,r4⟩:=hh;have hz:=zC hz r3 r4;generalize hL:eI k s=L at p1 p3' p4;have Lj:L.1=(eY k s).1:=by rw[← hL];rfl
      have JT:L.2=(bF [10] (eY k s).2).2:=by rw[← hL];rfl
      rw[← Lj,← JT]at hz;rw[← JT]at r3;refine⟨_,rfl,_,aA hz.2.2 0,_,aA hz.2.2 1,_,aA hz.2.2 2,_,aA hz.2.2 3,?_⟩;obtain⟨W8,IG,g8,b8⟩:=bZ w9 #[.int .i64 L.1.k,.int .i64 L.1.t,.int .u64 L.1.u,.int .u64 L.1.v] 47;rw[← IG];have z8:=g8.size;have z9:=hz.2.1.size;obtain⟨ha,JG,KZ⟩:=hz;obtain⟨p9,g9⟩:=zP ⟨ha,JG,KZ⟩;have p9:w9.heap[w.heap.size]?=_:=p9;have o7:aD w9 w.heap.size 47 4 A out.length c (dY out):=ho.kp JG (fun k hk e=>by
       subst e;obtain⟨cur,DP⟩:=ho.block_type _ hk;obtain⟨a2,e2,_⟩:=h2;rw[e2]at DP;cases DP)
      obtain⟨A',n',c',Eo,DV,o9,EO,rfl⟩:=fL (m:=1) (d:=1) (o7.kept g8) (oD b8) rfl (fun h=>by cases h) (by omega) (by omega);have far:∀ k,(Value.slice A out.length c).ownBlock=some k->w.heap.size<k/\k≠W0.heap.size:=fun k hk=>by
       have h1:=o7.block_ge k hk;obtain⟨cur,DP⟩:=o7.block_type k hk;refine⟨?_,fun e=>?_⟩
       ·rcases Nat.lt_or_ge w.heap.size k with h | h
        ·exact h
        ·obtain rfl:k=w.heap.size:=by omega
         rw[p9]at DP;cases DP
       ·subst e;obtain⟨a2,e2,_⟩:=ha;rw[e2]at DP;cases DP
      have K9:Kp w9 Eo (fun k=>some k=(Value.slice A out.length c).ownBlock):=(Kp.of_none g8).then (Kp.of_grown EO) (fun k hk e=>e);have h9:Sr Eo W0.heap.size l L.2:=ha.kp K9 (fun e=>(far _ e.symm).2 rfl);have p10:Eo.heap[w.heap.size]?=some (.cells #[.int .i64 0,.int .i64 0] 37 (0,0)):=by rw[K9.block _ (Array.getElem?_eq_some_iff.1 p9).1 (fun e=>by have:=(far _ e.symm).1;omega)];exact p9
      have Gg:w.grownBy Eo none:=((Kp.of_none g9 (S:=fun k=>w.heap.size<k)).then K9 (fun k hk e=>(far _ e.symm).1)).grown (fun k hk e=>by omega);exact⟨_,_,_,_,DV,q',p2,L.2,out++[L.1],h9,o9,by simp,p10,Gg,by rw[← p4];exact hp,p1,by simp;omega⟩
  ·rw[← hp,yV hq he]
 ·rintro w2 ⟨σ,h2,b2,g2,hp⟩;have b2:w2.heap[w.heap.size]?=_:=b2;have lt:=(Array.getElem?_eq_some_iff.1 b2).1;have z2:=g2.size;obtain⟨a,q1,q2,q3,q4,q5,q6⟩:=id h2;have q1:w2.drew.heap[W0.heap.size]?=_:=q1;have b2:w2.drew.heap[w.heap.size]?=_:=b2;have g2:=aG g2;generalize w2.drew=w3 at q1 b2 g2 ⊢;obtain⟨U,hU,u1,u2,f⟩:=mY b2 (.int .i64 σ.p) (.int .i64 σ.q);have lt1:=(Array.getElem?_eq_some_iff.1 q1).1;have q1U:U.heap[W0.heap.size]?=_:=(u2.block _ lt1 (by show ¬ W0.heap.size=w.heap.size;omega)).trans q1;refine⟨fun u=>u.heap[W0.heap.size]?=w3.heap[W0.heap.size]?,rfl,_,rfl,_,by rw[aJ];exact aA q1 2,_,by rw[aJ,cV];exact aA q1 3,_,rfl,σ.e,fun u hu=>by rw[aJ];exact aA (hu.trans q1) 4,f.1,f.2.1,f.2.2.1,f.2.2.2,?_⟩;rw[← hU];refine⟨q1U.trans q1.symm,_,aA u1 0,_,aA u1 1,?_⟩;rw[hp];exact⟨none,0,0,rfl,rfl,aD.nil _ _ _ _,((Kp.of_none g2).then u2 (fun k hk e=>e)).grown (fun k hk e=>by omega)⟩
end Go.Proofs.YtdlomlmijdifbaaGreatDoor

/- Own texts, packed: I3, I4, I5, I6, I7, I8, I9, I10. -/
import Derived.Test.YtdlomlmijdifbaaGreatDoorGIAg
import Derived.Test.YtdlomlmijdifbaaGreatDoorGIXg
import Derived.Test.YtdlomlmijdifbaaGreatDoorGIg
import Derived.Test.YtdlomlmijdifbaaGreatDoorGCg
import Derived.Maps.Keyed
import Derived.Laws.Concat
set_option linter.unusedVariables false
set_option linter.unusedSimpArgs false
set_option maxHeartbeats 4000000
set_option maxRecDepth 100000
namespace Go.Proofs.YtdlomlmijdifbaaGreatDoor
open Go Go.V Go.RowKit
theorem lI{w:World}{l p:List Int}(hl:aZ l)(hp:aZ p):Calls P 122 #[.string (aT l),.string (aT p)] w fun ev w'=>ev=.returned (.bool (p.isPrefixOf l))/\w'=w:=by
 apply vc122;dsimp only[VC122,cB];apply vc152;dsimp only[VC152,rb,Br,Eg];rw[bG,bG];have tp:((p.length:Nat):Int).toNat=p.length:=by omega
 refine⟨fun h=>⟨⟨by omega,by omega⟩,_,fun w=>gT _ _ _ _ w,_,rfl,?_,rfl⟩,fun h=>⟨false,rfl,?_,rfl⟩⟩
 ·rw[tp,qK,List.drop_zero];congr 2;rw[Bool.eq_iff_iff,decide_eq_true_iff,List.isPrefixOf_iff_prefix,List.prefix_iff_eq_take];constructor
  ·intro h;exact(qI (fun x hx=>hl x (List.mem_of_mem_take hx)) hp h).symm
  ·intro h;rw[← h]
 ·congr 2;rw[eq_comm,Bool.eq_false_iff];intro h';rw[List.isPrefixOf_iff_prefix]at h';have:=h'.length_le;omega
def C0(s:Sn):Prop:=(0<=s.p/\s.p+s.l.length<=2^40)/\(0<=s.q/\s.q+s.l.length<=2^40)/\aZ s.l
theorem C0.skN:∀ {n:Nat} {s:Sn},C0 s->C0 (skN n s)
 | 0,s,h=>h
 | n+1,⟨[],p,q,e⟩,h=>h
 | n+1,⟨x ::r,p,q,e⟩,h=>by
  obtain⟨h1,h2,h3⟩:=h;simp only[List.length_cons]at h1 h2;refine C0.skN (n:=n) (s:=⟨r,if x=10 then p+1 else p,if x=10 then 1 else q+1,e⟩) ⟨?_,?_,fun y hy=>h3 y (by simp[hy])⟩
  ·simp only;split <;>omega
  ·simp only;split <;>omega
theorem C0.fail{e:Int}{s:Sn}(h:C0 s):C0 (dZ e s):=by
 unfold dZ;split <;>exact h
theorem Bt{i:Nat}{s:Sn}(h:i<s.l.length):skN (i+1) s=⟨s.l.drop (i+1),if s.l[i]=10 then(skN i s).p+1 else(skN i s).p,if s.l[i]=10 then 1 else(skN i s).q+1,s.e⟩:=by
 have h1:=fI i s;have h2:=iW i s;rw[← eZ i 1 s];generalize skN i s=z at h1 h2 ⊢;obtain⟨l,p,q,e⟩:=z;simp only at h1 h2;rw[List.drop_eq_getElem_cons h]at h1;subst h1;subst h2;rfl
def Sq(w:World)(b:Nat)(s:Sn):Prop:=w.heap[b]?=some (.cells #[.string (aT s.l),.int .i64 s.p,.int .i64 s.q,.int .i64 s.e] 142 (0,0))/\C0 s
theorem Sq.kp{w w':World}{S:Nat->Prop}{b:Nat}{s:Sn}(h:Sq w b s)(hk:Kp w w' S)(hS:¬ S b):Sq w' b s :=
 ⟨by rw[hk.block b (Array.getElem?_eq_some_iff.1 h.1).1 hS];exact h.1,h.2⟩
theorem Sq.kept{w w':World}{b:Nat}{s:Sn}(h:Sq w b s)(hg:w.grownBy w' none):Sq w' b s:=h.kp (S:=fun _=>False) (Kp.of_none hg) (fun h=>h)
theorem Sq.lt{w:World}{b:Nat}{s:Sn}(h:Sq w b s):b<w.heap.size:=(Array.getElem?_eq_some_iff.1 h.1).1
theorem Sq.err{w:World}{b:Nat}{s:Sn}(h:Sq w b s):w.cell? ⟨b,3,none⟩=some (.int .i64 s.e):=aA h.1 3
theorem Sq.str{w:World}{b:Nat}{s:Sn}(h:Sq w b s):w.cell? ⟨b,0,none⟩=some (.string (aT s.l)):=aA h.1 0
abbrev sI(b:Nat):Value:=.pointer (some ⟨b,0,none⟩)
theorem uH{w:World}{l:List Int}(hl:l.length<=2^30)(hb:aZ l):Calls P 30 #[.string (aT l)] w fun ev w'=>ev=.returned (sI w.heap.size)/\Sq w' w.heap.size ⟨l,1,1,0⟩/\w.grownBy w' none:=by
 apply vc30;dsimp only[VC30,nb,iq];exact⟨rfl,⟨heap_alloc_new w _,⟨by simp only;omega,by simp only;omega⟩,⟨by simp only;omega,by simp only;omega⟩,hb⟩,World.grownBy_alloc w _ none⟩
theorem uI{w:World}{b:Nat}{s:Sn}(h:Sq w b s):Calls P 36 #[sI b] w fun ev w'=>ev=.returned (.int .i64 s.e)/\w'=w:=by
 apply vc36;dsimp only[VC36,Rd,iq];refine⟨_,rfl,s.e,by rw[aS];exact h.err,rfl,rfl⟩
theorem dN{w:World}{b:Nat}{s:Sn}{f:Int}(h:Sq w b s):Calls P 91 #[sI b,.int .i64 f] w fun ev w'=>ev=.returned (.tuple #[])/\Sq w' b (dZ f s)/\Kp w w' (fun k=>k=b):=by
 apply vc91;dsimp only[VC91,rt,Wt,Br,Rd,iq];obtain⟨h1,h2⟩:=h;refine⟨_,rfl,s.e,by rw[aS];exact aA h1 3,fun h=>⟨_,rfl,?_⟩,fun h=>⟨rfl,?_,Kp.refl w _⟩⟩
 ·rw[aS];have:=aH h1 3 (.int .i64 f);refine⟨⟨_,aA h1 3⟩,aC h1 3,rfl,⟨?_,h2.fail⟩,cJ (Kp.refl w _) rfl⟩;unfold dZ;rw[if_pos h];simpa using this
 ·unfold dZ;rw[if_neg h];exact⟨h1,h2⟩
theorem kU{w:World}{b n:Nat}{s:Sn}(h:Sq w b s)(hn:n<=s.l.length):Calls P 92 #[sI b,.int .i64 (n:Int)] w fun ev w'=>ev=.returned (.tuple #[])/\Sq w' b (skN n s)/\Kp w w' (fun k=>k=b):=by
 apply vc92;dsimp only[VC92,rt,Wt,Br,Rd,Ws,iq]
 try simp only[aI]
 obtain⟨h1,h2⟩:=h;refine⟨fun m x w'=>∃ i:Nat,x=(i:Int)/\i<=n/\m=n-i/\Kp w w' (fun k=>k=b)/\w'.heap[b]?=some (.cells #[.string (aT s.l),.int .i64 (skN i s).p,.int .i64 (skN i s).q,.int .i64 s.e] 142 (0,0)),⟨_,0,rfl,by omega,rfl,Kp.refl w _,h1⟩,?_⟩;rintro m x w1 ⟨i,rfl,hi,rfl,k1,h1⟩;have ti:(i:Int).toNat=i:=by omega
 have tn:(n:Int).toNat=n:=by omega
 rw[ti,tn];have EK:=bG s.l;have IA:=(h2.skN (n:=i));have KP:=h2.1;have Dx:(skN i s).l.length=s.l.length-i:=by rw[fI,List.length_drop]
 obtain⟨hp,hq,_⟩:=IA;rw[Dx]at hp hq;refine⟨fun Dp=>⟨_,rfl,_,aA h1 0,⟨by omega,by rw[EK];omega⟩,fun EC=>?_,fun EC=>?_⟩,fun Du=>?_⟩
 ·rw[gQ h2.2.2 (by omega)]at EC;have e1:=Bt (i:=i) (s:=s) (by omega);rw[if_pos EC,if_pos EC]at e1;have s1:=aH h1 1 (.int .i64 ((skN i s).p+1));have s2:=aH s1 2 (.int .i64 1);refine⟨_,rfl,?_⟩;rw[aS];refine⟨(skN i s).p,aA h1 1,⟨by omega,by omega⟩,_,rfl,?_⟩;rw[aS,dR];refine⟨⟨_,aA h1 1⟩,aC h1 1,?_⟩;refine⟨⟨_,aA s1 2⟩,aC s1 2,⟨by omega,by omega⟩,_,?_,i+1,by omega,by omega,rfl,cJ (cJ k1 rfl) rfl,by rw[e1];simpa using s2⟩;omega
 ·rw[gQ h2.2.2 (by omega)]at EC;have e1:=Bt (i:=i) (s:=s) (by omega);rw[if_neg EC,if_neg EC]at e1;have s2:=aH h1 2 (.int .i64 ((skN i s).q+1));refine⟨_,rfl,(skN i s).q,by rw[aS,dR];exact aA h1 2,⟨by omega,by omega⟩,_,rfl,?_⟩;rw[aS,dR];refine⟨⟨_,aA h1 2⟩,aC h1 2,⟨by omega,by omega⟩,_,?_,i+1,by omega,by omega,rfl,cJ k1 rfl,by rw[e1];simpa using s2⟩;omega
 ·have:i=n:=by omega
  subst this;have s0:=aH h1 0 (.string (aT (s.l.drop i)));refine⟨_,rfl,_,aA h1 0,⟨by omega,by rw[EK];omega⟩,_,rfl,⟨_,aA h1 0⟩,aC h1 0,trivial,?_⟩;rw[qK,EK,List.take_length];refine⟨⟨?_,h2.skN⟩,cJ k1 rfl⟩;rw[fI,iW];simpa using s0
theorem pQ{w:World}{x:Int}:Calls P 90 #[.int .u8 x] w fun ev w'=>ev=.returned (.bool (cZ x))/\w'=w:=by
 apply vc90;dsimp only[VC90,rb,Br];unfold cZ;refine⟨fun h=>⟨?_,rfl⟩,fun h=>⟨?_,rfl⟩⟩
 ·congr 2;rw[decide_eq_decide];omega
 ·congr 2;rw[eq_comm,decide_eq_false_iff_not];omega
theorem sH{w:World}{b:Nat}{p:List Int}{s:Sn}(h:Sq w b s)(hp:aZ p):Calls P 89 #[sI b,.string (aT p)] w fun ev w'=>ev=.returned (.bool (bY p s).1)/\Sq w' b (bY p s).2/\Kp w w' (fun k=>k=b):=by
 apply vc89;dsimp only[VC89,rb,Br,Bb,Rd,cB,cU,iq];unfold bY;refine⟨_,rfl,s.e,by rw[aS];exact h.err,fun he=>?_,fun he=>⟨_,rfl,_,h.str,?_⟩⟩
 ·rw[if_pos he];exact⟨rfl,h,Kp.refl w _⟩
 rw[if_neg he];refine(lI h.2.2.2 hp).mono fun ev w1 hh=>?_;obtain⟨rfl,rfl⟩:=hh;refine⟨_,rfl,fun hi=>?_,fun hi=>⟨_,rfl,_,h.str,?_⟩⟩
 ·have hi:p.isPrefixOf s.l=true:=hi;rw[if_pos hi,bG];refine(kU h (List.isPrefixOf_iff_prefix.1 hi).length_le).mono fun ev w2 hh=>?_;obtain⟨rfl,h2,k2⟩:=hh;exact⟨rfl,rfl,h2,k2⟩
 ·have hi:p.isPrefixOf s.l=false:=hi;rw[if_neg (by rw[hi];decide)];refine(lI hp h.2.2.2).mono fun ev w1 hh=>?_;obtain⟨rfl,rfl⟩:=hh;refine⟨_,rfl,fun hj=>?_,fun hj=>?_⟩
  ·have hj:s.l.isPrefixOf p=true:=hj;rw[hj];refine(dN h).mono fun ev w2 hh=>?_;obtain⟨rfl,h2,k2⟩:=hh;exact⟨rfl,rfl,h2,k2⟩
  ·have hj:s.l.isPrefixOf p=false:=hj;rw[hj];refine(dN h).mono fun ev w2 hh=>?_;obtain⟨rfl,h2,k2⟩:=hh;exact⟨rfl,rfl,h2,k2⟩
theorem CZ{w:World}{x:Int}(hx:0<=x/\x<=255):Sem.run P (Go.convert 22 9 (.slice (some ⟨w.heap.size,0,none⟩) 1 1)) (w.alloc (.cells #[.int .u8 x] 5))=.ok (.string (aT [x])) (w.alloc (.cells #[.int .u8 x] 5)):=by
 refine gD (l:=[x]) (fun j u hj=>?_) rfl
 match j,hj with
 | 0,hj=>simp at hj;subst hj;exact⟨_,rfl,aA (heap_alloc_new w _) 0⟩
theorem iF{w:World}{b:Nat}{s:Sn}{x:Int}(h:Sq w b s)(hx:0<=x/\x<=255):Calls P 63 #[sI b,.int .u8 x] w fun ev w'=>ev=.returned (.bool (bY [x] s).1)/\Sq w' b (bY [x] s).2/\Kp w w' (fun k=>k=b):=by
 apply vc63;dsimp only[VC63,cB,nb];have g0:=World.grownBy_alloc w (.cells #[.int .u8 x] 5) none;refine⟨_,CZ hx,(sH (p:=[x]) (h.kept g0) (fun y hy=>by simp at hy;subst hy;exact hx)).mono fun ev w1 hh=>?_⟩;obtain⟨rfl,h1,k1⟩:=hh;exact⟨_,rfl,rfl,h1,(Kp.of_none g0).then k1 (fun _ _ e=>e)⟩
theorem sD{l:List Int}:decide (aT l=⟨#[]⟩)=decide (l=[]):=by
 rw[decide_eq_decide];constructor
 ·intro h;have:=congrArg ByteArray.size h;rw[bG]at this;exact List.length_eq_zero_iff.1 this
 ·rintro rfl;rfl
def jX(s:Sn):Int×Bool:=if s.e≠0 then(0,false) else(s.l.headD 0,decide (s.l≠[]))
theorem fK{w:World}{b:Nat}{s:Sn}(h:Sq w b s):Calls P 31 #[sI b] w fun ev w'=>ev=.returned (.tuple #[.int .u8 (jX s).1,.bool (jX s).2])/\w'=w:=by
 apply vc31;dsimp only[VC31,rt,Br,Bb,Rd,Eg];unfold jX;refine⟨_,rfl,s.e,by rw[aS];exact h.err,fun he=>?_,fun he=>⟨_,rfl,_,h.str,_,fun w=>gT _ _ _ _ w,?_⟩⟩
 ·rw[if_pos he];exact⟨rfl,rfl⟩
 rw[if_neg he,sD];have hb:=h.2.2.2;have FM:=h.str;cases hl:s.l with
 | nil=>exact⟨fun _=>⟨rfl,rfl⟩,fun h=>by simp at h⟩
 | cons x r =>
  rw[hl]at FM hb;refine⟨fun h=>by simp at h,fun _=>⟨_,rfl,_,FM,⟨by omega,by rw[bG];simp⟩,?_,rfl⟩⟩;rw[gQ hb (i:=0) (by simp)];simp
theorem jV{w:World}{b:Nat}{s:Sn}(h:Sq w b s):Calls P 32 #[sI b] w fun ev w'=>ev=.returned (.agg #[.int .i64 s.p,.int .i64 s.q])/\w.grownBy w' none:=by
 apply vc32;dsimp only[VC32,Wt,Rd,Ws,nb,iq];obtain⟨h1,h2⟩:=h;have g0:=World.grownBy_alloc w (.cells #[.int .i64 0,.int .i64 0] 37) none;have b0:=heap_alloc_new w (.cells #[.int .i64 0,.int .i64 0] 37);have s1:=aH b0 0 (.int .i64 s.p);have s2:=aH s1 1 (.int .i64 s.q);have Jc:=aD h1 g0;have k2:=cJ (S:=fun k=>w.heap.size<=k) (j:=1) (u:=.int .i64 s.q) (cJ (j:=0) (u:=.int .i64 s.p) (Kp.of_none g0) (Nat.le_refl _)) (Nat.le_refl _);refine⟨_,rfl,s.p,by rw[aS];exact aA Jc 1,s.q,by rw[aS,dR];exact aA Jc 2,⟨_,aA b0 0⟩,aC b0 0,⟨_,aA s1 1⟩,aC s1 1,s.p,aA s2 0,s.q,aA s2 1,rfl,?_⟩;exact k2.grown (fun k hk h=>by omega)
theorem nI(f:Int->Bool):∀ {l:List Int} {i:Nat},i<=(l.takeWhile f).length->(h:i<l.length)->f l[i]=decide (i<(l.takeWhile f).length)
 | x ::r,0,_,_=>by
  rw[List.takeWhile_cons];show f x=_;cases hx:f x <;>simp
 | x ::r,i+1,hi,h=>by
  rw[List.takeWhile_cons]at hi ⊢;cases hx:f x with
  | false=>rw[hx]at hi;simp at hi
  | true =>
   rw[hx]at hi;simp only[if_true,List.length_cons]at hi ⊢;have:=nI f (l:=r) (i:=i) (by omega) (by simpa using h);simp only[List.getElem_cons_succ];rw[this];simp
theorem kS(f:Int->Bool)(l:List Int):(l.takeWhile f).length<=l.length:=by
 have:=congrArg List.length (mA f l);rw[List.length_append]at this;omega
theorem Bq{f:Int->Bool}{l:List Int}{i:Nat}(h:i<(l.takeWhile f).length):(l.takeWhile f)[i]=l[i]'(Nat.lt_of_lt_of_le h (kS f l)):=by
 have:=congrArg (fun z=>z[i]?) (mA f l);simp only[List.getElem?_append_left h]at this;rw[List.getElem?_eq_getElem h,List.getElem?_eq_getElem (Nat.lt_of_lt_of_le h (kS f l))]at this;exact(Option.some.inj this).symm
theorem AE{m v:Int}{d:List Int}{i:Nat}(h:i<d.length):pS m v (d.drop i)=if m<d[i]-48∨(m-(d[i]-48)) / 10<v then none else pS m (v*10+(d[i]-48)) (d.drop (i+1)):=by
 rw[List.drop_eq_getElem_cons h];rfl
theorem oB {w:World} {b:Nat} {s:Sn} {most:Int} (h:Sq w b s) (hm:0<=most/\most<=18446744073709551615):Calls P 65 #[sI b,.int .u64 most] w fun ev w'=>ev=.returned (.int .u64 (eQ most s).1)/\Sq w' b (eQ most s).2/\Kp w w' (fun k=>k=b):=by
  apply vc65;dsimp only[VC65,Br,Bb,Rd,Eg,cB,cU,iq]
  try simp only[aI]
  refine⟨_,rfl,s.e,by rw[aS];exact h.err,fun he=>?_,fun he=>?_⟩
  · unfold eQ;rw[if_pos he];exact⟨rfl,h,Kp.refl w _⟩
  obtain⟨D,hD⟩:∃ D,D=(s.l.takeWhile cZ).length:=⟨_,rfl⟩;have Kk:D<=s.l.length:=by rw[hD];exact kS _ _
  have hq:=h.2.2.2;have IA:=h.2.1;have Gm:s.l.length<=2^40:=by have:=h.2.1;omega
  refine⟨fun m n w'=>w'=w/\∃ i:Nat,n=(i:Int)/\i<=D/\m=D-i,⟨_,rfl,0,rfl,by omega,rfl⟩,?_⟩;rintro m n w1 ⟨Dv,i,rfl,hi,rfl⟩;obtain rfl:w=w1:=Dv.symm;have ti:(i:Int).toNat=i:=by omega
  refine⟨fun x w'=>w'=w/\x=decide (i<D),⟨_,rfl,_,h.str,?_⟩,?_⟩
  · rw[bG,ti];refine⟨fun Dp=>⟨_,rfl,_,h.str,⟨by omega,by rw[bG];omega⟩,?_⟩,fun Dp=>⟨rfl,?_⟩⟩
    · refine pQ.mono fun ev w2 hh=>?_;obtain⟨rfl,rfl⟩:=hh;refine⟨_,rfl,rfl,?_⟩;rw[gQ hq (by omega),hD];exact nI cZ (by omega) (by omega)
    · symm;rw[decide_eq_false_iff_not];omega
  rintro x w1 ⟨Dv,rfl⟩;obtain rfl:w=w1:=Dv.symm;refine⟨fun hx=>?_,fun hx=>?_⟩
  · have hx:i<D:=of_decide_eq_true hx;exact⟨⟨by omega,by omega⟩,D-(i+1),by omega,rfl,i+1,by omega,by omega,rfl⟩
  have hx:¬ i<D:=of_decide_eq_false hx;obtain rfl:i=D:=by omega
  -- what the switch makes of it
  obtain⟨sw,D6⟩:∃ sw,sw=(if s.l=[] then dZ 20 s else if s.l.takeWhile cZ=[]∨1<(s.l.takeWhile cZ).length/\s.l.head?=some 48 then dZ 21 s else s):=⟨_,rfl⟩;have KY:s.e=0:=Decidable.not_not.1 he;have Ew:s.l.takeWhile cZ=[]↔i=0:=by rw[hD,List.length_eq_zero_iff]
  refine⟨fun w'=>Sq w' b sw/\Kp w w' (fun k=>k=b),⟨_,rfl,_,h.str,_,fun w=>gT _ _ _ _ w,?_⟩,?_⟩
  · rw[sD];refine⟨fun hn=>?_,fun hn=>?_⟩
    · have hn:s.l=[]:=of_decide_eq_true hn;refine(dN h).mono fun ev w2 hh=>?_;obtain⟨rfl,h2,k2⟩:=hh;rw[D6,if_pos hn];exact⟨rfl,h2,k2⟩
    have hn:¬ s.l=[]:=of_decide_eq_false hn;rw[if_neg hn]at D6;have DQ:=List.length_pos_iff.2 hn;refine⟨fun h0=>?_,fun h0=>⟨fun h1=>⟨_,rfl,_,h.str,⟨by omega,by rw[bG];omega⟩,?_⟩,fun h1=>?_⟩⟩
    · refine(dN h).mono fun ev w2 hh=>?_;obtain⟨rfl,h2,k2⟩:=hh;rw[D6,if_pos (.inl (Ew.2 (by omega)))];exact⟨rfl,h2,k2⟩
    · have IC:s.l.head?=some s.l[0]:=by rw[List.head?_eq_getElem?,List.getElem?_eq_getElem DQ]
      rw[gQ hq DQ];refine⟨fun HH=>?_,fun HH=>?_⟩
      · refine(dN h).mono fun ev w2 hh=>?_;obtain⟨rfl,h2,k2⟩:=hh;rw[D6,if_pos (.inr ⟨by omega,by rw[IC,HH]⟩)];exact⟨rfl,h2,k2⟩
      · rw[D6,if_neg (by
          rintro(hz | ⟨_,hz⟩)
          · exact h0 (by have:=Ew.1 hz;omega)
          · rw[IC]at hz;exact HH (Option.some.inj hz))]
        exact⟨h,Kp.refl w _⟩
    · rw[D6,if_neg (by
        rintro(hz | ⟨hz,_⟩)
        · exact h0 (by have:=Ew.1 hz;omega)
        · omega)]
      exact⟨h,Kp.refl w _⟩
  rintro w1 ⟨h1,k1⟩
  -- the digits, one by one
  refine⟨fun m v n w'=>∃(σ:Sn)(j:Nat),n=(j:Int)/\j<=i/\m=i-j/\Sq w' b σ/\Kp w w' (fun k=>k=b)/\((σ=s/\(0<=v/\v<=most)/\eQ most s=(match pS most v ((s.l.takeWhile cZ).drop j)with | none=>(0,dZ 22 s) | some v=>(v,skN i s)))∨(σ.e≠0/\eQ most s=(0,σ))),⟨_,sw,0,rfl,by omega,rfl,h1,k1,?_⟩,?_⟩
  · by_cases hn:s.l=[]
    · rw[if_pos hn]at D6;refine .inr ⟨by rw[D6];exact tH (by decide),?_⟩;unfold eQ;rw[if_neg he,if_pos hn,D6]
    rw[if_neg hn]at D6;by_cases hc:s.l.takeWhile cZ=[]∨1<(s.l.takeWhile cZ).length/\s.l.head?=some 48
    · rw[if_pos hc]at D6;refine .inr ⟨by rw[D6];exact tH (by decide),?_⟩;unfold eQ;rw[if_neg he,if_neg hn,if_pos hc,D6]
    · rw[if_neg hc]at D6;refine .inl ⟨D6,⟨by omega,by omega⟩,?_⟩;unfold eQ;rw[if_neg he,if_neg hn,if_neg hc,List.drop_zero,hD];rfl
  rintro m v n w2 ⟨σ,j,rfl,hj,rfl,h2,k2,hσ⟩;have tj:(j:Int).toNat=j:=by omega
  rw[tj];refine⟨fun x w'=>w'=w2/\x=decide (j<i/\σ.e=0),⟨fun Dp=>⟨_,rfl,σ.e,by rw[aS];exact h2.err,rfl,?_⟩,fun Dp=>⟨rfl,?_⟩⟩,?_⟩
  · rw[decide_eq_decide];exact⟨fun h=>⟨by omega,h⟩,fun h=>h.2⟩
  · symm;rw[decide_eq_false_iff_not];omega
  rintro x w3 ⟨Ea,rfl⟩;obtain rfl:w2=w3:=Ea.symm;refine⟨fun hx=>?_,fun hx=>?_⟩
  · obtain⟨Jk,Gy⟩:=of_decide_eq_true hx;obtain⟨rfl,hv,DD⟩:σ=s/\_:=hσ.resolve_right fun h=>h.1 Gy;have EO:j<σ.l.length:=by omega
    have Iz:j<(σ.l.takeWhile cZ).length:=by omega
    have Em:cZ σ.l[j]=true:=by rw[nI cZ (by omega) EO,decide_eq_true_iff];omega
    unfold cZ at Em;simp only[decide_eq_true_eq]at Em;rw[AE Iz,Bq Iz]at DD;refine⟨_,rfl,_,h2.str,⟨by omega,by rw[bG];omega⟩,?_⟩;rw[gQ hq EO];generalize σ.l[j]=y at Em DD ⊢;refine⟨⟨by omega,by omega⟩,⟨by omega,by omega⟩,fun w'=>Sq w' b (if most<y-48∨(most-(y-48)) / 10<v then dZ 22 σ else σ)/\Kp w w' (fun k=>k=b),⟨fun x w'=>w'=w2/\x=decide (most<y-48∨(most-(y-48)) / 10<v),⟨fun h1=>⟨rfl,?_⟩,fun h1=>⟨⟨by omega,by omega⟩,⟨by omega,by omega,by omega,by omega⟩,rfl,?_⟩⟩,?_⟩,?_⟩
    · symm;rw[decide_eq_true_iff];exact .inl (by omega)
    · rw[decide_eq_decide];omega
    · rintro x w3 ⟨Ea,rfl⟩;obtain rfl:w2=w3:=Ea.symm;refine⟨fun hx=>?_,fun hx=>?_⟩
      · rw[if_pos (of_decide_eq_true hx)];refine(dN h2).mono fun ev w4 hh=>?_;obtain⟨rfl,h4,k4⟩:=hh;exact⟨rfl,h4,k2.then k4 (fun _ _ e=>e)⟩
      · rw[if_neg (of_decide_eq_false hx)];exact⟨h2,k2⟩
    · rintro w4 ⟨h4,k4⟩;refine⟨⟨by omega,by omega⟩,i-(j+1),by omega,_,j+1,by omega,by omega,rfl,h4,k4,?_⟩;by_cases hc:most<y-48∨(most-(y-48)) / 10<v
      · rw[if_pos hc]at DD ⊢;exact .inr ⟨tH (by decide),DD⟩
      · rw[if_neg hc]at DD ⊢;have e1:IntKind.wrap .u64 (v*10)=v*10:=dM (show aI .u64 (v*10) from⟨by omega,by omega⟩);have e2:IntKind.wrap .u64 (v*10+(y-48))=v*10+(y-48):=dM (show aI .u64 (v*10+(y-48)) from⟨by omega,by omega⟩);rw[e1,e2];exact .inl ⟨rfl,⟨by omega,by omega⟩,DD⟩
  · have hx:=of_decide_eq_false hx;refine⟨_,rfl,σ.e,by rw[aS];exact h2.err,fun Dq=>?_,fun Dq=>?_⟩
    · rcases hσ with⟨rfl,_⟩ | ⟨_,DD⟩
      · exact absurd Dq he
      · rw[DD];exact⟨rfl,h2,k2⟩
    · obtain⟨rfl,hv,DD⟩:σ=s/\_:=hσ.resolve_right fun h=>Dq h.1;obtain rfl:j=i:=by
        have:=Decidable.not_not.1 Dq;have:¬ j<i:=fun h=>hx ⟨h,this⟩;omega
      rw[List.drop_eq_nil_of_le (by omega)]at DD;have DD:eQ most σ=(v,skN j σ):=DD;rw[DD];refine(kU h2 Kk).mono fun ev w4 hh=>?_;obtain⟨rfl,h4,k4⟩:=hh;exact⟨rfl,rfl,h4,k2.then k4 (fun _ _ e=>e)⟩
def wI(c:Cm):List Value:=[.int .i64 c.k,.int .i64 c.t,.int .u64 c.u,.int .u64 c.v]
abbrev iR(c:Cm):Value:=.agg #[.int .i64 c.k,.int .i64 c.t,.int .u64 c.u,.int .u64 c.v]
def dP(l:List Cm):List Value:=l.flatMap wI
theorem wH(l m:List Cm):dP (l++m)=dP l++dP m:=by simp[dP]
theorem wF(l:List Cm):(dP l).length=l.length*4:=by
 induction l with
 | nil=>rfl
 | cons e l ih=>simp[dP,wI]at ih ⊢;omega
theorem wG:∀ {l:List Cm} {i:Nat} (h:i<l.length),(dP l)[i*4]?=some (.int .i64 l[i].k)/\(dP l)[i*4+1]?=some (.int .i64 l[i].t)/\(dP l)[i*4+2]?=some (.int .u64 l[i].u)/\(dP l)[i*4+3]?=some (.int .u64 l[i].v)
 | e ::l,0,_=>by simp[dP,wI]
 | e ::l,i+1,h=>by
  have ih:=wG (l:=l) (i:=i) (by simpa using h);rw[show(i+1)*4=i*4+1+1+1+1 by omega];exact ih
theorem Ab:lS P 26 47 4 (P.bytesOf 47):=⟨(P.info? 47).getD default,((P.info? 47).getD default).zero.getD undef,by kernel_rfl,by kernel_rfl,by kernel_rfl,by kernel_rfl,by kernel_rfl,by kernel_rfl,by decide⟩
theorem B8:P.bytesOf 47<=64:=of_decide_eq_true (by kernel_rfl)
theorem eJ{w:World}{base:Nat}{A B:OA}{n c m d:Nat}{xs ys:List Cm}(ho:aE w base 47 4 A n c (dP xs))(hB:bF w B (dP ys))(hm:m=ys.length)(hd:B=none->d=0)(hn:n+m<=2^39)(hb:base<=w.heap.size):
    ∃ (A':OA) (n' c':Nat) (w':World),Sem.run P (Builtin.append_ #[26,26] 26 #[.slice A n c,.slice B m d]) w=.ok (.slice A' n' c') w' ∧
      aE w' base 47 4 A' n' c' (dP (xs++ys))/\w.grownBy w' (Value.slice A n c).ownBlock/\n'=n+m:=by
  cases B with
  | none =>
    have FF:ys=[]:=by
      cases ys with
      | nil=>rfl
      | cons y ys=>obtain⟨a,e,_⟩:=hB 0 _ rfl;cases e
    subst FF;have h0:m=0:=by simpa using hm
    have h1:=hd rfl;subst h0 h1;exact⟨A,n,c,w,ho.appends_nil Ab,by simpa using ho,aF _ _,rfl⟩
  | some a =>
    obtain⟨A',n',c',w',h1,h2,h3,h4,_⟩:=ho.appends (ty:=26) Ab B8 (a:=a) (m:=m) (cc:=d) (us:=dP ys) (by rw[wF,hm]) (fun j u hj=>by obtain⟨b,q1,q2⟩:=hB j u hj;cases q1;exact q2) (fun u hu=>by
      simp only[dP,List.mem_flatMap]at hu;obtain⟨e,_,he⟩:=hu;simp[wI]at he;rcases he with rfl | rfl | rfl | rfl <;>rfl) (by omega) hb
    exact⟨A',n',c',w',h1,by rw[wH];exact h2,h4,h3⟩
theorem nJ{w:World}{g:Nat}{c:Cm}{t:TypeId}{fr:Nat×Nat}(h:w.heap[g]?=some (.cells #[.int .i64 c.k,.int .i64 c.t,.int .u64 c.u,.int .u64 c.v] t fr)):bF w (some ⟨g,0,none⟩) (dP [c]):=by
 intro j u hj;refine⟨_,rfl,?_⟩;rw[bS,aA h];simpa[dP,wI]using hj
theorem iO{W:World}{g:Nat}{t:TypeId}{a0 a1 a2 a3:Value}(h:W.heap[g]?=some (.cells #[a0,a1,a2,a3] t (0,0)))(b0 b1 b2 b3:Value):∃ v,v=(((W.setCell ⟨g,0,none⟩ b0).setCell ⟨g,1,none⟩ b1).setCell ⟨g,2,none⟩ b2).setCell ⟨g,3,none⟩ b3/\v.heap[g]?=some (.cells #[b0,b1,b2,b3] t (0,0))/\Kp W v (fun k=>k=g) ∧
    (∃ u,W.cell? ⟨g,0,none⟩=some u)/\W.frozen? ⟨g,0,none⟩=false/\(∃ u,(W.setCell ⟨g,0,none⟩ b0).cell? ⟨g,1,none⟩=some u)/\(W.setCell ⟨g,0,none⟩ b0).frozen? ⟨g,1,none⟩=false/\(∃ u,((W.setCell ⟨g,0,none⟩ b0).setCell ⟨g,1,none⟩ b1).cell? ⟨g,2,none⟩=some u)/\((W.setCell ⟨g,0,none⟩ b0).setCell ⟨g,1,none⟩ b1).frozen? ⟨g,2,none⟩=false/\(∃ u,(((W.setCell ⟨g,0,none⟩ b0).setCell ⟨g,1,none⟩ b1).setCell ⟨g,2,none⟩ b2).cell? ⟨g,3,none⟩=some u)/\(((W.setCell ⟨g,0,none⟩ b0).setCell ⟨g,1,none⟩ b1).setCell ⟨g,2,none⟩ b2).frozen? ⟨g,3,none⟩=false:=by
  have s1:=aH h 0 b0;have s2:=aH s1 1 b1;have s3:=aH s2 2 b2;have s4:=aH s3 3 b3;exact⟨_,rfl,by simpa using s4,dY (dY (dY (dY (Kp.refl W _) rfl) rfl) rfl) rfl,⟨_,aA h 0⟩,aC h 0,⟨_,aA s1 1⟩,aC s1 1,⟨_,aA s2 2⟩,aC s2 2,⟨_,aA s3 3⟩,aC s3 3⟩
theorem tG{W:World}{g:Nat}{t:TypeId}{a0 a1:Value}(h:W.heap[g]?=some (.cells #[a0,a1] t (0,0)))(b0 b1:Value):∃ v,v=(W.setCell ⟨g,0,none⟩ b0).setCell ⟨g,1,none⟩ b1/\v.heap[g]?=some (.cells #[b0,b1] t (0,0))/\Kp W v (fun k=>k=g) ∧
    (∃ u,W.cell? ⟨g,0,none⟩=some u)/\W.frozen? ⟨g,0,none⟩=false/\(∃ u,(W.setCell ⟨g,0,none⟩ b0).cell? ⟨g,1,none⟩=some u)/\(W.setCell ⟨g,0,none⟩ b0).frozen? ⟨g,1,none⟩=false:=by
  have s1:=aH h 0 b0;have s2:=aH s1 1 b1;exact⟨_,rfl,by simpa using s2,dY (dY (Kp.refl W _) rfl) rfl,⟨_,aA h 0⟩,aC h 0,⟨_,aA s1 1⟩,aC s1 1⟩
theorem rD(c d:Cm)(w:World):(Op.equalIn 10000 47 (iR c) (iR d)).run P w=.ok (decide (c=d)) w:=by
 rw[run_equalIn_struct w 9999 47 _ _ (by kernel_rfl) (by kernel_rfl)];obtain ⟨f, g, h, k, Ge, Fk, Fj, Gf, Gc, Gb, Ga, J0, JZ, JY, FB, F7, JR⟩ : ∃ f g h k : Field, (P.fieldsOf 47).toList = [f, g, h, k] ∧ f.name = "Kind" ∧ f.type = 3 ∧ f.offset = 0 ∧ g.name = "T" ∧ g.type = 2 ∧ g.offset = 1 ∧ h.name = "U" ∧ h.type = 28 ∧ h.offset = 2 ∧ k.name = "V" ∧ k.type = 28 ∧ k.offset = 3 :=
  ⟨((P.fieldsOf 47).toList)[0]!,((P.fieldsOf 47).toList)[1]!,((P.fieldsOf 47).toList)[2]!,((P.fieldsOf 47).toList)[3]!,by kernel_rfl,by kernel_rfl,by kernel_rfl,by kernel_rfl,by kernel_rfl,by kernel_rfl,by kernel_rfl,by kernel_rfl,by kernel_rfl,by kernel_rfl,by kernel_rfl,by kernel_rfl,by kernel_rfl⟩
 rw[Ge];have u1:P.underlying 3=some (.int .i64):=by kernel_rfl
 have u2:P.underlying 2=some (.int .i64):=by kernel_rfl
 have u3:P.underlying 28=some (.int .u64):=by kernel_rfl
 have p1:P.plainKey 3=true:=by kernel_rfl
 have p2:P.plainKey 2=true:=by kernel_rfl
 have p3:P.plainKey 28=true:=by kernel_rfl
 have e1:∀(x:Cm)(w:World),(part 3 #[.int .i64 x.k,.int .i64 x.t,.int .u64 x.u,.int .u64 x.v] 0).run P w=.ok (.int .i64 x.k) w:=fun x w=>run_part_plain w p1 rfl;have e2:∀(x:Cm)(w:World),(part 2 #[.int .i64 x.k,.int .i64 x.t,.int .u64 x.u,.int .u64 x.v] 1).run P w=.ok (.int .i64 x.t) w:=fun x w=>run_part_plain w p2 rfl;have e3:∀(x:Cm)(w:World),(part 28 #[.int .i64 x.k,.int .i64 x.t,.int .u64 x.u,.int .u64 x.v] 2).run P w=.ok (.int .u64 x.u) w:=fun x w=>run_part_plain w p3 rfl;have e4:∀(x:Cm)(w:World),(part 28 #[.int .i64 x.k,.int .i64 x.t,.int .u64 x.u,.int .u64 x.v] 3).run P w=.ok (.int .u64 x.v) w:=fun x w=>run_part_plain w p3 rfl;have q1:∀(x y:Int)(w:World),(Op.equalIn 9999 3 (.int .i64 x) (.int .i64 y)).run P w=.ok (x ==y) w:=fun x y w=>run_equalIn_int w 9998 _ _ _ _ _ u1;have q2:∀(x y:Int)(w:World),(Op.equalIn 9999 2 (.int .i64 x) (.int .i64 y)).run P w=.ok (x ==y) w:=fun x y w=>run_equalIn_int w 9998 _ _ _ _ _ u2;have q3:∀(x y:Int)(w:World),(Op.equalIn 9999 28 (.int .u64 x) (.int .u64 y)).run P w=.ok (x ==y) w:=fun x y w=>run_equalIn_int w 9998 _ _ _ _ _ u3;simp only[Op.eqFields,Fk,Fj,Gf,Gc,Gb,Ga,J0,JZ,JY,FB,F7,JR,Sem.run_bind,Sem.run_ite,e1,e2,e3,e4,q1,q2,q3,Result.andThen_ok];obtain⟨k1,t1,u1,v1⟩:=c;obtain⟨k2,t2,u2,v2⟩:=d;simp only[Cm.mk.injEq];by_cases h1:k1=k2 <;>by_cases h2:t1=t2 <;>by_cases h3:u1=u2 <;>by_cases h4:v1=v2 <;>simp[h1,h2,h3,h4]
theorem zB(s t:Operand)(c d:Cm)(w:World):Sem.run P (do eqGuard .eql 47 s t (iR c) (iR d);Go.binOp .eql 47 (iR c) (iR d):Sem Value) w=.ok (.bool (decide (c=d))) w:=by
 rw[Sem.run_bind,run_eqGuard_agg w .eql 47 s t _ _ (by kernel_rfl),Result.andThen_ok,run_eql_struct w,rD];rfl
theorem Cn(s t:Operand)(c d:Cm)(w:World):Sem.run P (do eqGuard .neq 47 s t (iR c) (iR d);Go.binOp .neq 47 (iR c) (iR d):Sem Value) w=.ok (.bool (!decide (c=d))) w:=by
 rw[Sem.run_bind,run_eqGuard_agg w .neq 47 s t _ _ (by kernel_rfl),Result.andThen_ok,run_neq_struct w,rD];rfl
abbrev oD(x:Int):Value:=.int .i64 x
abbrev fG(l:List Int):Value:=.string (aT l)
def zH(x:Int):Prop:=-9223372036854775808<=x/\x<=9223372036854775807
theorem xY:CQ P 3 oD zH where
 law:=Maps.int_keyed Tryz.underlying3
 key:=fun x hx=>⟨_,Maps.keyOf_int_mk Tryz.underlying3 (Aj hx)⟩
 inj:=fun x y h=>by simpa[oD]using h
def gB:List (Int×List Int):=[(1,dL 1),(2,dL 2),(3,dL 3),(4,dL 4),(5,dL 5),(6,dL 6)]
abbrev Dk(w:World)(b:Nat)(L:List (Int×List Int)):Prop:=eD oD zH fG w b L
theorem iZ{w:World}:Calls P 47 #[] w fun ev w'=>ev=.returned (.map (some w.heap.size))/\Dk w' w.heap.size gB/\w.grownBy w' none:=by
 apply vc47;dsimp only[VC47,iq];have h0:Dk (w.alloc (.map #[] 0)) w.heap.size []:=eD.made w;have g0:=World.grownBy_alloc w (.map #[] 0) none;have ok:∀ x:Int,0<=x->x<=6->zH x:=fun x h1 h2=>by unfold zH;omega
 obtain⟨w1,r1,m1,g1⟩:=eD.update xY Tryz.underlying104 h0 (ok 1 (by omega) (by omega)) (dL 1);obtain⟨w2,r2,m2,g2⟩:=eD.update xY Tryz.underlying104 m1 (ok 2 (by omega) (by omega)) (dL 2);obtain⟨w3,r3,m3,g3⟩:=eD.update xY Tryz.underlying104 m2 (ok 3 (by omega) (by omega)) (dL 3);obtain⟨w4,r4,m4,g4⟩:=eD.update xY Tryz.underlying104 m3 (ok 4 (by omega) (by omega)) (dL 4);obtain⟨w5,r5,m5,g5⟩:=eD.update xY Tryz.underlying104 m4 (ok 5 (by omega) (by omega)) (dL 5);obtain⟨w6,r6,m6,g6⟩:=eD.update xY Tryz.underlying104 m5 (ok 6 (by omega) (by omega)) (dL 6);have st:∀ {a b:World},w.grownBy a none->a.grownBy b (some w.heap.size)->w.grownBy b none:=fun h h'=>aN h h' (fun k hk=>by cases hk;exact Nat.le_refl _);exact⟨w1,r1,w2,r2,w3,r3,w4,r4,w5,r5,w6,r6,rfl,m6,st (st (st (st (st (st g0 g1) g2) g3) g4) g5) g6⟩
theorem AZ(w:World):(zeroValue 9).run P w=.ok (.string (aT [])) w:=by
 have h:((P.info? 9).getD default).zero=some (.string (aT [])):=by kernel_rfl
 have h2:(P.info? 9).isSome=true:=by kernel_rfl
 cases hq:P.info? 9 with
 | none=>rw[hq]at h2;cases h2
 | some i=>rw[hq]at h;simp at h;simp[zeroValue,typeInfo,hq,h]
theorem yH(k:Int):(fR gB k).getD []=dL k:=by
 by_cases h:jG k
 ·rcases h with rfl | rfl | rfl | rfl | rfl | rfl <;>rfl
 ·unfold jG at h;simp only[not_or]at h;obtain⟨h1,h2,h3,h4,h5,h6⟩:=h;simp[gB,fR,dL,h1,h2,h3,h4,h5,h6,Ne.symm h1,Ne.symm h2,Ne.symm h3,Ne.symm h4,Ne.symm h5,Ne.symm h6]
theorem qD{w:World}{b:Nat}(h:Dk w b gB){k:Int}(hk:zH k):Sem.run P (Instr.lookup 104 (.map (some b)) (.int .i64 k) false) w=.ok (.string (aT (dL k))) w:=by
 have:=eD.look xY (mt:=104) (et:=9) Tryz.underlying104 (AZ w) h hk false;simp only[if_false,Bool.false_eq_true]at this;rw[this,← yH];cases fR gB k <;>rfl
def wM(c:Cm):Cm:=if c.k=1 then⟨c.k,c.t,0,0⟩ else if c.k=2∨c.k=5 then⟨c.k,0,c.u,c.v⟩ else if c.k=3∨c.k=6 then⟨c.k,0,c.u,0⟩ else⟨c.k,0,0,0⟩
theorem yU{w:World}(c:Cm):Calls P 50 #[iR c] w fun ev w'=>ev=.returned (iR (wM c))/\w.grownBy w' none:=by
 apply vc50;dsimp only[VC50,Wt,Br,Bb,Rd,Ws,nb,iq];obtain⟨W0,DR,g0,b0⟩:=cC w #[.int .i64 c.k,.int .i64 c.t,.int .u64 c.u,.int .u64 c.v] 47;rw[← DR];obtain⟨W1,Gq,g1,b1⟩:=cC W0 #[.int .i64 0,.int .i64 0,.int .u64 0,.int .u64 0] 47;rw[← Gq];have ER:=aB g0 g1;have b0':=aD b0 g1;have lt0:=(Array.getElem?_eq_some_iff.1 b0).1;have gs:=g0.size;obtain⟨k,t,u,v⟩:=c;unfold wM;simp only at b0 b0' ⊢;have fin:∀ a b c d:Int,∃ V,V=(((W1.setCell ⟨W0.heap.size,0,none⟩ (.int .i64 a)).setCell ⟨W0.heap.size,1,none⟩ (.int .i64 b)).setCell ⟨W0.heap.size,2,none⟩ (.int .u64 c)).setCell ⟨W0.heap.size,3,none⟩ (.int .u64 d)/\V.heap[W0.heap.size]?=some (.cells #[.int .i64 a,.int .i64 b,.int .u64 c,.int .u64 d] 47 (0,0))/\w.grownBy V none:=fun a b c d=>by
  obtain⟨V,hV,h1,h2,_⟩:=iO b1 (.int .i64 a) (.int .i64 b) (.int .u64 c) (.int .u64 d);exact⟨V,hV,h1,((Kp.of_none ER).then h2 (fun k hk e=>e)).grown (fun k hk e=>by omega)⟩
 refine⟨k,aA b0' 0,fun h1=>?_,fun h1=>?_⟩
 ·obtain⟨V,hV,h2,h3,f⟩:=iO b1 (.int .i64 k) (.int .i64 t) (.int .u64 0) (.int .u64 0);obtain⟨V',Fq,h4,h5⟩:=fin k t 0 0;obtain rfl:V=V':=hV.trans Fq.symm;refine⟨k,aA b0' 0,t,aA b0' 1,f.1,f.2.1,f.2.2.1,f.2.2.2.1,f.2.2.2.2.1,f.2.2.2.2.2.1,f.2.2.2.2.2.2.1,f.2.2.2.2.2.2.2,?_⟩;rw[← hV];exact⟨k,aA h2 0,t,aA h2 1,0,aA h2 2,0,aA h2 3,by rw[if_pos h1],h5⟩
 refine⟨fun x w'=>w'=W1/\x=decide (k=2∨k=5),⟨fun h=>⟨rfl,by rw[decide_eq_decide];omega⟩,fun h=>⟨rfl,by rw[decide_eq_decide];omega⟩⟩,?_⟩;rintro x w1 ⟨hw,rfl⟩;obtain rfl:W1=w1:=hw.symm;refine⟨fun h2=>?_,fun h2=>?_⟩
 ·have h2:=of_decide_eq_true h2;obtain⟨V,hV,h3,h4,f⟩:=iO b1 (.int .i64 k) (.int .i64 0) (.int .u64 u) (.int .u64 v);obtain⟨V',Fq,h4,h5⟩:=fin k 0 u v;obtain rfl:V=V':=hV.trans Fq.symm;refine⟨k,aA b0' 0,u,aA b0' 2,v,aA b0' 3,f.1,f.2.1,f.2.2.1,f.2.2.2.1,f.2.2.2.2.1,f.2.2.2.2.2.1,f.2.2.2.2.2.2.1,f.2.2.2.2.2.2.2,?_⟩;rw[← hV];exact⟨k,aA h3 0,0,aA h3 1,u,aA h3 2,v,aA h3 3,by rw[if_neg h1,if_pos h2],h5⟩
 have h2:=of_decide_eq_false h2;refine⟨fun x w'=>w'=W1/\x=decide (k=3∨k=6),⟨fun h=>⟨rfl,by rw[decide_eq_decide];omega⟩,fun h=>⟨rfl,by rw[decide_eq_decide];omega⟩⟩,?_⟩;rintro x w1 ⟨hw,rfl⟩;obtain rfl:W1=w1:=hw.symm;refine⟨fun h3=>?_,fun h3=>?_⟩
 ·have h3:=of_decide_eq_true h3;obtain⟨V,hV,h4,h5,f⟩:=iO b1 (.int .i64 k) (.int .i64 0) (.int .u64 u) (.int .u64 0);obtain⟨V',Fq,h6,h5⟩:=fin k 0 u 0;obtain rfl:V=V':=hV.trans Fq.symm;refine⟨k,aA b0' 0,u,aA b0' 2,f.1,f.2.1,f.2.2.1,f.2.2.2.1,f.2.2.2.2.1,f.2.2.2.2.2.1,f.2.2.2.2.2.2.1,f.2.2.2.2.2.2.2,?_⟩;rw[← hV];exact⟨k,aA h4 0,0,aA h4 1,u,aA h4 2,0,aA h4 3,by rw[if_neg h1,if_neg h2,if_pos h3],h5⟩
 ·have h3:=of_decide_eq_false h3;obtain⟨V,hV,h4,h5,f⟩:=iO b1 (.int .i64 k) (.int .i64 0) (.int .u64 0) (.int .u64 0);obtain⟨V',Fq,h6,h5⟩:=fin k 0 0 0;obtain rfl:V=V':=hV.trans Fq.symm;refine⟨k,aA b0' 0,f.1,f.2.1,f.2.2.1,f.2.2.2.1,f.2.2.2.2.1,f.2.2.2.2.2.1,f.2.2.2.2.2.2.1,f.2.2.2.2.2.2.2,?_⟩;rw[← hV];exact⟨k,aA h4 0,0,aA h4 1,0,aA h4 2,0,aA h4 3,by rw[if_neg h1,if_neg h2,if_neg h3],h5⟩
theorem kD(c:Cm):aY c=(decide (dL c.k≠[]) && (decide (c=wM c) && decide (c.t≥0))):=by
 obtain⟨k,t,u,v⟩:=c;unfold aY wM;rw[Bool.eq_iff_iff];by_cases h1:k=1
 ·subst h1;simp[dL];omega
 by_cases h2:k=2∨k=5
 ·have:dL k≠[]:=fun h=>zQ h (by omega);simp[h1,h2,this];omega
 by_cases h3:k=3∨k=6
 ·have:dL k≠[]:=fun h=>zQ h (by omega);simp[h1,h2,h3,this];omega
 by_cases h4:k=4
 ·subst h4;simp[dL];omega
 ·simp only[not_or]at h2 h3;simp[h1,h2,h3,h4,dL]
theorem cR{w:World}{c:Cm}(hc:zH c.k):Calls P 17 #[iR c] w fun ev w'=>ev=.returned (.bool (aY c))/\w.grownBy w' none:=by
 apply vc17;dsimp only[VC17,rb,Bb,Rd,Rc,Eg,nb,iq];obtain⟨W0,DR,g0,b0⟩:=cC w #[.int .i64 c.k,.int .i64 c.t,.int .u64 c.u,.int .u64 c.v] 47;rw[← DR];have cd:∀ {u:World},u.heap[w.heap.size]?=some (.cells #[.int .i64 c.k,.int .i64 c.t,.int .u64 c.u,.int .u64 c.v] 47 (0,0))->u.cell? ⟨w.heap.size,0,none⟩=some (.int .i64 c.k)/\u.cell? ⟨w.heap.size,1,none⟩=some (.int .i64 c.t)/\u.cell? ⟨w.heap.size,2,none⟩=some (.int .u64 c.u)/\u.cell? ⟨w.heap.size,3,none⟩=some (.int .u64 c.v):=fun h=>⟨aA h 0,aA h 1,aA h 2,aA h 3⟩;refine⟨fun u=>u.heap[w.heap.size]?=some (.cells #[.int .i64 c.k,.int .i64 c.t,.int .u64 c.u,.int .u64 c.v] 47 (0,0)),b0,iZ.mono fun ev w1 hh=>?_⟩;obtain⟨rfl,hm,g1⟩:=hh;have b1:=aD (w:=W0.drew) b0 g1;have ER:=aB (aG g0) g1;refine⟨_,rfl,b1,c.k,fun u h=>(cd h).1,_,qD hm hc,_,fun w=>oE _ _ _ _ w,fun h=>?_,fun h=>?_⟩
 ·rw[show(⟨#[]⟩:ByteArray)=aT [] from rfl]at h;have hk:dL c.k≠[]:=fun e=>by rw[e]at h;simp at h
  refine⟨c.k,fun u h=>(cd h).1,c.t,fun u h=>(cd h).2.1,c.u,fun u h=>(cd h).2.2.1,c.v,fun u h=>(cd h).2.2.2,c.k,(cd b1).1,c.t,(cd b1).2.1,c.u,(cd b1).2.2.1,c.v,(cd b1).2.2.2,(yU c).mono fun ev w2 hh=>?_⟩;obtain⟨rfl,g2⟩:=hh;have b2:=aD b1 g2;refine⟨_,_,_,_,rfl,b2,_,fun w=>zB _ _ c (wM c) w,fun h=>?_,fun h=>?_⟩
  ·refine⟨c.t,(cd b2).2.1,?_,aB ER g2⟩;rw[kD,decide_eq_true hk,h];rfl
  ·refine⟨?_,aB ER g2⟩;rw[kD,h,Bool.false_and,Bool.and_false]
 ·refine⟨?_,ER⟩;have hk:dL c.k=[]:=by
   have:=sD (l:=dL c.k);rw[show(decide (aT (dL c.k)=⟨#[]⟩))=true by simpa using h]at this;exact of_decide_eq_true this.symm
  rw[kD,hk];rfl
theorem iH{w:World}(c:Cm):Calls P 18 #[iR c] w fun ev w'=>ev=.returned (.bool (aY c))/\w.grownBy w' none:=by
 apply vc18;dsimp only[VC18,rb,Br,Bb,Rd,Eg,nb,iq];obtain⟨W0,DR,g0,b0⟩:=cC w #[.int .i64 c.k,.int .i64 c.t,.int .u64 c.u,.int .u64 c.v] 47;rw[← DR];obtain⟨k,t,u,v⟩:=c;unfold aY;simp only at b0 ⊢;refine⟨k,aA b0 0,fun h1=>?_,fun h1=>?_⟩
 ·rw[if_pos h1];refine⟨t,aA b0 1,fun h2=>⟨u,aA b0 2,fun h3=>⟨v,aA b0 3,?_,g0⟩,fun h3=>⟨?_,g0⟩⟩,fun h2=>⟨?_,g0⟩⟩
  ·congr 2;rw[decide_eq_decide];omega
  ·congr 2;symm;rw[decide_eq_false_iff_not];omega
  ·congr 2;symm;rw[decide_eq_false_iff_not];omega
 rw[if_neg h1];refine⟨fun x w'=>w'=W0/\x=decide (k=2∨k=5),⟨fun h=>⟨rfl,by rw[decide_eq_decide];omega⟩,fun h=>⟨rfl,by rw[decide_eq_decide];omega⟩⟩,?_⟩;rintro x w1 ⟨hw,rfl⟩;obtain rfl:W0=w1:=hw.symm;refine⟨fun h2=>?_,fun h2=>?_⟩
 ·rw[if_pos (of_decide_eq_true h2)];exact⟨t,aA b0 1,rfl,g0⟩
 rw[if_neg (of_decide_eq_false h2)];refine⟨fun x w'=>w'=W0/\x=decide (k=3∨k=6),⟨fun h=>⟨rfl,by rw[decide_eq_decide];omega⟩,fun h=>⟨rfl,by rw[decide_eq_decide];omega⟩⟩,?_⟩;rintro x w1 ⟨hw,rfl⟩;obtain rfl:W0=w1:=hw.symm;refine⟨fun h3=>?_,fun h3=>?_⟩
 ·rw[if_pos (of_decide_eq_true h3)];refine⟨t,aA b0 1,fun h4=>⟨v,aA b0 3,?_,g0⟩,fun h4=>⟨?_,g0⟩⟩
  ·congr 2;rw[decide_eq_decide];omega
  ·congr 2;symm;rw[decide_eq_false_iff_not];omega
 rw[if_neg (of_decide_eq_false h3)];refine⟨fun h4=>?_,fun h4=>?_⟩
 ·rw[if_pos h4];refine⟨k,aA b0 0,t,aA b0 1,u,aA b0 2,v,aA b0 3,_,fun w=>zB _ _ ⟨k,t,u,v⟩ ⟨4,0,0,0⟩ w,?_,g0⟩;congr 2;rw[decide_eq_decide,Cm.mk.injEq];omega
 ·rw[if_neg h4];exact⟨rfl,g0⟩
theorem zP{κ υ:Type}[DecidableEq κ]{k:κ}{done:List κ}:∀ L:List (κ×υ),(L.filter fun q=>decide (q.1 ∉ k ::done)).length<=(L.filter fun q=>decide (q.1 ∉ done)).length
 | []=>Nat.le_refl _
 | q ::L=>by
  have ih:=zP (k:=k) (done:=done) L;rw[List.filter_cons,List.filter_cons];by_cases h1:q.1∈done
  ·rw[if_neg (by simp[h1]),if_neg (by simp[h1])];exact ih
  ·rw[if_pos (c:=decide (q.1 ∉ done)=true) (by simp[h1]),List.length_cons];by_cases h2:q.1=k
   ·rw[if_neg (by simp[h2])];omega
   ·rw[if_pos (by simp[h1,h2]),List.length_cons];omega
theorem zO{κ υ:Type}[DecidableEq κ]{p:κ×υ}{done:List κ}(hn:p.1 ∉ done):∀ {L:List (κ×υ)},p∈L->(L.filter fun q=>decide (q.1 ∉ p.1 ::done)).length<(L.filter fun q=>decide (q.1 ∉ done)).length
 | q ::L,h=>by
  rw[List.filter_cons,List.filter_cons];rcases List.mem_cons.1 h with rfl | h
  ·have:=zP (k:=p.1) (done:=done) L;rw[if_neg (by simp),if_pos (by simp[hn]),List.length_cons];omega
  ·have ih:=zO hn h;by_cases h1:q.1∈done
   ·rw[if_neg (by simp[h1]),if_neg (by simp[h1])];exact ih
   ·rw[if_pos (c:=decide (q.1 ∉ done)=true) (by simp[h1]),List.length_cons];by_cases h2:q.1=p.1
    ·rw[if_neg (by simp[h2])];omega
    ·rw[if_pos (by simp[h1,h2]),List.length_cons];omega
theorem BK(k:Int):aZ (dL k):=by
 unfold dL
 repeat' split
 all_goals decide
theorem BL{k:Int}{v:List Int}(hk:jG k)(h:dL k=v):cP v=k:=by rw[← h,zR hk]
theorem xX {w:World} {v:List Int} (hv:aZ v):Calls P 33 #[fG v] w fun ev w'=>ev=.returned (.int .i64 (cP v))/\w.grownBy w' none:=by
  apply vc33;dsimp only[VC33,Bb,Eg,iq];refine iZ.mono fun ev w1 hh=>?_;obtain⟨rfl,hm,g1⟩:=hh;obtain⟨o,Dw,hI⟩:=eD.range Tryz.underlying104 hm;have g2:=aB g1 (World.grownBy_alloc w1 o none);have Dv:=g1.size;refine⟨_,rfl,_,_,Dw,fun m w'=>∃ (done:List Int) (last:Option (Int×List Int)),kN oD fG w' w1.heap.size w.heap.size gB done last/\(∀ k∈done,jG k/\dL k≠v)/\w.grownBy w' none/\m=(gB.filter fun q=>decide (q.1 ∉ done)).length,⟨_,[],none,hI,by simp,g2,rfl⟩,?_⟩;rintro m w2 ⟨done,last,hI,hd,g3,rfl⟩;have hE:∀ x y:Int,oD x=oD y->x=y:=fun x y h=>by simpa[oD]using h
  rcases hI.next (P:=P) hE 0 with⟨Dr,Dw⟩ | ⟨p,hp,JD,w3,Dw,IU,K3⟩
  · refine⟨_,.inl ⟨Dw,fun h=>(by cases h),fun _=>⟨?_,g3⟩⟩⟩;congr 2;by_cases h:cP v=0
    · exact h.symm
    · exfalso;obtain⟨h1,h2⟩:=vC h;have:(cP v,dL (cP v))∈gB:=by
        unfold gB;rcases h2 with h | h | h | h | h | h <;>rw[h] <;>simp
      exact(hd _ (Dr _ this)).2 h1.symm
  · have FZ:p.2=dL p.1/\jG p.1:=by
      unfold gB at hp;simp only[List.mem_cons,List.not_mem_nil,or_false]at hp;unfold jG;rcases hp with rfl | rfl | rfl | rfl | rfl | rfl <;>simp
    have g4:w.grownBy w3 none:=((Kp.of_none g3).then K3 (fun k hk e=>e)).grown (fun k hk e=>by omega);refine⟨_,.inr ⟨_,_,Dw,fun _=>⟨_,_,_,IU.entry,_,fun w=>gT _ _ _ _ w,fun h=>?_,fun h=>?_⟩,fun h=>(by cases h)⟩⟩
    · have h:=qI (by rw[FZ.1];exact BK _) hv (of_decide_eq_true h);refine⟨?_,g4⟩;rw[BL FZ.2 (by rw[← FZ.1];exact h)]
    · have h:aT p.2≠aT v:=of_decide_eq_false h;refine⟨_,zO JD hp,p.1 ::done,_,IU,?_,g4,rfl⟩;intro k hk;rcases List.mem_cons.1 hk with rfl | hk
      · exact⟨FZ.2,fun e=>h (by rw[FZ.1,e])⟩
      · exact hd k hk
theorem cK{a b:List Int}(h:a.length+b.length<=9223372036854775807)(w:World):Sem.run P (Go.binOp .add 9 (fG a) (fG b)) w=.ok (fG (a++b)) w:=by
 have:=run_string_add_sum (P:=P) (w:=w) (aT a) (aT b) (by rw[bG,bG];exact h);rw[Au]at this;exact this
theorem Bc{b:Int}{s:Sn}{r:List Int}(he:s.e=0)(hl:s.l=b ::r):bY [b] s=(true,skN 1 s):=gJ he (by rw[hl];rfl)
theorem uD {w:World} {b:Nat} {s:Sn} (h:Sq w b s) (he:s.e=0):Calls P 34 #[sI b] w fun ev w'=>ev=.returned (fG (s.l.takeWhile cX))/\Sq w' b (skN (s.l.takeWhile cX).length s)/\Kp w w' (fun k=>k=b):=by
  apply vc34;dsimp only[VC34,Br,Bb,cB,nb];have hW:=kS cX s.l;obtain⟨W,GK⟩:∃ W,W=(s.l.takeWhile cX).length:=⟨_,rfl⟩;have Dx:s.l.length<=2^40:=by have:=h.2.1;omega
  refine(fK h).mono fun ev w1 hh=>?_;obtain⟨rfl,rfl⟩:=hh;refine⟨_,_,rfl,fun m v x is w'=>∃ j:Nat,v=aT (s.l.take j)/\j<=W/\m=W-j/\Sq w' b (skN j s)/\Kp w1 w' (fun k=>k=b)/\x=(jX (skN j s)).1/\is=(jX (skN j s)).2,⟨_,0,rfl,by omega,rfl,h,Kp.refl _ _,rfl,rfl⟩,?_⟩;rintro m v x is w2 ⟨j,rfl,hj,rfl,h2,k2,rfl,rfl⟩;have e2:(skN j s).e=0:=by rw[iW];exact he
  have JJ:jX (skN j s)=((skN j s).l.headD 0,decide ((skN j s).l≠[])):=by unfold jX;rw[if_neg (by simp[e2])]
  rw[JJ];have EN:=fI j s;have fin:j=W->(fG (s.l.take j)=fG (s.l.takeWhile cX)/\Sq w2 b (skN (s.l.takeWhile cX).length s)):=fun e=>by
    subst e;refine⟨?_,by rw[← GK];exact h2⟩;have:=mA cX s.l;rw[← GK]at this;congr 2
    conv=>lhs;rw[this,List.take_left' GK.symm]
  refine⟨fun hx=>?_,fun hx=>?_⟩
  · have hx:(skN j s).l≠[]:=of_decide_eq_true hx;have EO:j<s.l.length:=by
      rw[EN]at hx;have:=List.length_pos_iff.2 hx;rw[List.length_drop]at this;omega
    have E5:(skN j s).l=s.l[j] ::s.l.drop (j+1):=by rw[EN,List.drop_eq_getElem_cons EO]
    have JX:(skN j s).l.headD 0=s.l[j]:=by rw[E5];rfl
    have Fh:=nI cX (l:=s.l) (i:=j) (by omega) EO;have II:=h.2.2.2 _ (List.getElem_mem EO);rw[JX];have out:¬ (s.l[j]≥97/\s.l[j]<=122)->j=W:=fun hn=>by
      have:¬ j<W:=fun Dp=>hn (by
        rw[← GK,decide_eq_true Dp]at Fh;exact of_decide_eq_true (p:=s.l[j]≥97/\s.l[j]<=122) Fh)
      omega
    refine⟨fun h1=>⟨fun HK=>?_,fun HK=>?_⟩,fun h1=>?_⟩
    · have KQ:j<W:=by
        have:cX s.l[j]=true:=by unfold cX;rw[decide_eq_true_iff];exact⟨h1,HK⟩
        rw[Fh]at this;have:=of_decide_eq_true this;omega
      refine(iF h2 II).mono fun ev w3 hh=>?_;obtain⟨rfl,h3,k3⟩:=hh;rw[Bc e2 E5]at h3;have h3:Sq w3 b (skN 1 (skN j s)):=h3;rw[eZ]at h3;have g4:=World.grownBy_alloc w3 (.cells #[.int .u8 s.l[j]] 5) none;refine⟨_,rfl,_,CZ II,_,fun w=>cK (by simp;omega) w,(fK (h3.kept g4)).mono fun ev w4 hh=>?_⟩;obtain⟨rfl,rfl⟩:=hh;refine⟨_,_,rfl,W-(j+1),by omega,j+1,by rw[List.take_succ_eq_append_getElem EO],by omega,rfl,h3.kept g4,(k2.then k3 (fun _ _ e=>e)).alloc _,rfl,rfl⟩
    · obtain⟨f1,f2⟩:=fin (out fun h=>HK h.2);exact⟨by rw[← f1],f2,k2⟩
    · obtain⟨f1,f2⟩:=fin (out fun h=>h1 h.1);exact⟨by rw[← f1],f2,k2⟩
  · have hx:(skN j s).l=[]:=by simpa using hx
    have:j=W:=by
      rw[EN]at hx;have:=congrArg List.length hx;simp at this;omega
    obtain⟨f1,f2⟩:=fin this;exact⟨by rw[← f1],f2,k2⟩
theorem xO{m:Int}{s:Sn}(hm:0<=m):0<=(eQ m s).1/\(eQ m s).1<=m:=by
 unfold eQ;split
 ·exact⟨Int.le_refl _,hm⟩
 ·split
  ·exact⟨Int.le_refl _,hm⟩
  ·split
   ·exact⟨Int.le_refl _,hm⟩
   ·split
    ·exact⟨Int.le_refl _,hm⟩
    ·rename_i v hv;have Em:∀ x∈s.l.takeWhile cZ,cZ x=true:=fun x hx=>List.all_eq_true.1 (List.all_takeWhile (p:=cZ) (l:=s.l)) x hx;obtain⟨h1,h2⟩:=qU Em (by omega) hm hv;have:=mJ (v:=0) (by omega) Em;show 0<=v/\v<=m;omega
theorem xU{w:World}{b:Nat}{s:Sn}{q:Nat}{most:Int}(h:Sq w b s)(hq:w.heap[q]?=some (.cells #[sI b] 78 (0,0)))(Dq:q≠b)(hm:0<=most/\most<=18446744073709551615):
    Calls P 64 #[.int .u64 most,.pointer (some ⟨q,0,none⟩)] w fun ev w'=>ev=.returned (.int .u64 (eQ most (bY [32] s).2).1)/\Sq w' b (eQ most (bY [32] s).2).2/\Kp w w' (fun k=>k=b):=by
  apply vc64;dsimp only[VC64,cI,cB];refine⟨_,aA hq 0,(iF h (x:=32) (by omega)).mono fun ev w1 hh=>?_⟩;obtain⟨rfl,h1,k1⟩:=hh;have Fx:w1.heap[q]?=_:=(k1.block q (Array.getElem?_eq_some_iff.1 hq).1 Dq).trans hq;refine⟨_,rfl,_,aA Fx 0,(oB h1 hm).mono fun ev w2 hh=>?_⟩;obtain⟨rfl,h2,k2⟩:=hh;exact⟨_,rfl,rfl,h2,k1.then k2 (fun _ _ e=>e)⟩
theorem Ck{W:World}{g:Nat}{t:TypeId}{a0 a1 a2 a3:Value}(h:W.heap[g]?=some (.cells #[a0,a1,a2,a3] t (0,0))):
    (∀ u,(W.setCell ⟨g,1,none⟩ u).heap[g]?=some (.cells #[a0,u,a2,a3] t (0,0)))/\(∀ u,(W.setCell ⟨g,2,none⟩ u).heap[g]?=some (.cells #[a0,a1,u,a3] t (0,0)))/\∀ u,(W.setCell ⟨g,3,none⟩ u).heap[g]?=some (.cells #[a0,a1,a2,u] t (0,0)) :=
  ⟨fun u=>by simpa using aH h 1 u,fun u=>by simpa using aH h 2 u,fun u=>by simpa using aH h 3 u⟩
theorem Bv{w w':World}{S:Nat->Prop}{g j:Nat}{u:Value}(h:Kp w w' S)(hg:w.heap.size<=g):Kp w (w'.setCell ⟨g,j,none⟩ u) S:=h.set (p:=⟨g,j,none⟩) (.inl hg) u
theorem uF{w:World}{b:Nat}{s:Sn}{k:Int}(h:Sq w b s):Calls P 35 #[sI b,.int .i64 k] w fun ev w'=>ev=.returned (iR (iX k s).1)/\Sq w' b (iX k s).2/\Kp w w' (fun k=>k=b):=by
 apply vc35;dsimp only[VC35,Wt,Br,Bb,Rd,Ws,cI,cB,nb,iq]
 try simp only[aI]
 obtain⟨W0,DR,g0,b0⟩:=cC w #[sI b] 78;rw[← DR];obtain⟨W1,Gq,g1,b1⟩:=cC W0 #[.int .i64 0,.int .i64 0,.int .u64 0,.int .u64 0] 47;rw[← Gq];obtain⟨W2,EB,g2,b2⟩:=cC W1 #[.int .i64 0,.int .i64 0,.int .u64 0,.int .u64 0] 47;rw[← EB];obtain⟨V,hV,v1,v2,f⟩:=iO b2 (.int .i64 k) (.int .i64 0) (.int .u64 0) (.int .u64 0);refine⟨f.1,f.2.1,f.2.2.1,f.2.2.2.1,f.2.2.2.2.1,f.2.2.2.2.2.1,f.2.2.2.2.2.2.1,f.2.2.2.2.2.2.2,?_⟩;rw[← hV];have z0:=g0.size;have z1:=g1.size;have z2:=g2.size;have lt:=h.lt;have lt0:=(Array.getElem?_eq_some_iff.1 b0).1;have lt1:=(Array.getElem?_eq_some_iff.1 b1).1;have Eh:=aB (aB g0 g1) g2;have Kh:Sq V b s:=(h.kept Eh).kp v2 (by show ¬ b=_;omega);have kV:Kp w V (fun k=>k=b):=(Kp.of_none Eh).then v2 (fun k hk e=>by omega)
 -- what each line's middle keeps
 let Z:Sn->Cm->World->Prop:=fun σ c w'=>Sq w' b σ/\Kp w w' (fun k=>k=b)/\w'.heap[w.heap.size]?=some (.cells #[sI b] 78 (0,0))/\w'.heap[W0.heap.size]?=some (.cells #[.int .i64 0,.int .i64 0,.int .u64 0,.int .u64 0] 47 (0,0))/\w'.heap[W1.heap.size]?=some (.cells #[.int .i64 c.k,.int .i64 c.t,.int .u64 c.u,.int .u64 c.v] 47 (0,0));have zV:Z s ⟨k,0,0,0⟩ V:=⟨Kh,kV,by rw[v2.block _ (by omega) (by show ¬ w.heap.size=_;omega)];exact aD (aD b0 g1) g2,by rw[v2.block _ (by omega) (by show ¬ W0.heap.size=_;omega)];exact aD b1 g2,v1⟩
 -- a number is read
 have zN:∀ {σ c w1 most},Z σ c w1->(0<=most/\most<=18446744073709551615)->Calls P 64 #[.int .u64 most,.pointer (some ⟨w.heap.size,0,none⟩)] w1 fun ev w'=>ev=.returned (.int .u64 (eQ most (bY [32] σ).2).1)/\Z (eQ most (bY [32] σ).2).2 c w':=fun {σ c w1 most} hz hm=>by
  obtain⟨q1,q2,q3,q4,q5⟩:=hz;have:=(Array.getElem?_eq_some_iff.1 q3).1;have:=(Array.getElem?_eq_some_iff.1 q4).1;have:=(Array.getElem?_eq_some_iff.1 q5).1;refine(xU q1 q3 (by omega) hm).mono fun ev w2 hh=>?_;obtain⟨rfl,r1,r2⟩:=hh;exact⟨rfl,r1,q2.then r2 (fun _ _ e=>e),by rw[r2.block _ (by omega) (by show ¬ w.heap.size=b;omega)];exact q3,by rw[r2.block _ (by omega) (by show ¬ W0.heap.size=b;omega)];exact q4,by rw[r2.block _ (by omega) (by show ¬ W1.heap.size=b;omega)];exact q5⟩
 -- a cell is written
 have zS:∀ {σ c w1},Z σ c w1->(∀ x,Z σ { c with t:=x } (w1.setCell ⟨W1.heap.size,1,none⟩ (.int .i64 x)))/\(∀ x,Z σ { c with u:=x } (w1.setCell ⟨W1.heap.size,2,none⟩ (.int .u64 x)))/\∀ x,Z σ { c with v:=x } (w1.setCell ⟨W1.heap.size,3,none⟩ (.int .u64 x)):=fun {σ c w1} hz=>by
  obtain⟨q1,q2,q3,q4,q5⟩:=hz;have s5:=Ck q5;have far:∀ (j:Nat) (u:Value) {g:Nat} {o:Obj},g≠W1.heap.size->w1.heap[g]?=some o->(w1.setCell ⟨W1.heap.size,j,none⟩ u).heap[g]?=some o:=fun j u {g o} hg ho=>by
   rw[(cJ (j:=j) (u:=u) (Kp.refl w1 (fun k=>k=W1.heap.size)) rfl).block g (Array.getElem?_eq_some_iff.1 ho).1 hg];exact ho
  exact⟨fun x=>⟨⟨far _ _ (by omega) q1.1,q1.2⟩,Bv q2 (by omega),far _ _ (by omega) q3,far _ _ (by omega) q4,s5.1 _⟩,fun x=>⟨⟨far _ _ (by omega) q1.1,q1.2⟩,Bv q2 (by omega),far _ _ (by omega) q3,far _ _ (by omega) q4,s5.2.1 _⟩,fun x=>⟨⟨far _ _ (by omega) q1.1,q1.2⟩,Bv q2 (by omega),far _ _ (by omega) q3,far _ _ (by omega) q4,s5.2.2 _⟩⟩
 have zW:∀ {σ c w1},Z σ c w1->∀ j,j<4->(∃ u,w1.cell? ⟨W1.heap.size,j,none⟩=some u)/\w1.frozen? ⟨W1.heap.size,j,none⟩=false:=fun {σ c w1} hz j hj=>by
  obtain⟨q1,q2,q3,q4,q5⟩:=hz;refine⟨?_,aC q5 j⟩;rw[aA q5 j]
  match j,hj with
  | 0,_=>exact⟨_,rfl⟩
  | 1,_=>exact⟨_,rfl⟩
  | 2,_=>exact⟨_,rfl⟩
  | 3,_=>exact⟨_,rfl⟩
 refine⟨fun w'=>Z (mM k s).2 (mM k s).1 w',⟨fun h1=>?_,fun h1=>?_⟩,?_⟩
 ·refine(zN zV (by omega)).mono fun ev w1 hh=>?_;obtain⟨rfl,hz⟩:=hh;have hr:=xO (m:=9223372036854775807) (s:=(bY [32] s).2) (by decide);refine⟨_,rfl,⟨by omega,by omega⟩,(zW hz 1 (by omega)).1,(zW hz 1 (by omega)).2,?_⟩;unfold mM;rw[if_pos h1];exact(zS hz).1 _
 ·refine⟨fun x w'=>w'=V/\x=decide (k=2∨k=5),⟨fun h=>⟨rfl,by rw[decide_eq_decide];omega⟩,fun h=>⟨rfl,by rw[decide_eq_decide];omega⟩⟩,?_⟩;rintro x w1 ⟨hw,rfl⟩;obtain rfl:V=w1:=hw.symm;refine⟨fun h2=>?_,fun h2=>?_⟩
  ·refine(zN zV (by omega)).mono fun ev w1 hh=>?_;obtain⟨rfl,hz⟩:=hh;refine⟨_,rfl,(zW hz 2 (by omega)).1,(zW hz 2 (by omega)).2,?_⟩;refine(zN ((zS hz).2.1 _) (by omega)).mono fun ev w2 hh=>?_;obtain⟨rfl,hz⟩:=hh;refine⟨_,rfl,(zW hz 3 (by omega)).1,(zW hz 3 (by omega)).2,?_⟩;unfold mM;rw[if_neg h1,if_pos (of_decide_eq_true h2)];exact(zS hz).2.2 _
  have h2:=of_decide_eq_false h2;refine⟨fun x w'=>w'=V/\x=decide (k=3∨k=6),⟨fun h=>⟨rfl,by rw[decide_eq_decide];omega⟩,fun h=>⟨rfl,by rw[decide_eq_decide];omega⟩⟩,?_⟩;rintro x w1 ⟨hw,rfl⟩;obtain rfl:V=w1:=hw.symm;refine⟨fun h3=>?_,fun h3=>?_⟩
  ·refine(zN zV (by omega)).mono fun ev w1 hh=>?_;obtain⟨rfl,hz⟩:=hh;refine⟨_,rfl,(zW hz 2 (by omega)).1,(zW hz 2 (by omega)).2,?_⟩;unfold mM;rw[if_neg h1,if_neg h2,if_pos (of_decide_eq_true h3)];exact(zS hz).2.1 _
  ·unfold mM;rw[if_neg h1,if_neg h2,if_neg (of_decide_eq_false h3)];exact zV
 ·rintro w1 ⟨q1,q2,q3,q4,q5⟩;have:=(Array.getElem?_eq_some_iff.1 q3).1;have:=(Array.getElem?_eq_some_iff.1 q4).1;have:=(Array.getElem?_eq_some_iff.1 q5).1;refine⟨_,aA q3 0,(iF q1 (x:=10) (by omega)).mono fun ev w2 hh=>?_⟩;obtain⟨rfl,r1,r2⟩:=hh;have q4:w2.heap[W0.heap.size]?=_:=(r2.block _ (by omega) (by show ¬ W0.heap.size=b;omega)).trans q4;have q5:w2.heap[W1.heap.size]?=_:=(r2.block _ (by omega) (by show ¬ W1.heap.size=b;omega)).trans q5;generalize hc:(mM k s).1=c at q5;obtain⟨U,hU,u1,u2,f⟩:=iO q4 (.int .i64 c.k) (.int .i64 c.t) (.int .u64 c.u) (.int .u64 c.v);refine⟨_,rfl,_,aA q5 0,_,aA q5 1,_,aA q5 2,_,aA q5 3,f.1,f.2.1,f.2.2.1,f.2.2.2.1,f.2.2.2.2.1,f.2.2.2.2.2.1,f.2.2.2.2.2.2.1,f.2.2.2.2.2.2.2,?_⟩;rw[← hU];refine⟨_,aA u1 0,_,aA u1 1,_,aA u1 2,_,aA u1 3,?_,?_,?_⟩
  ·unfold iX;simp only[hc]
  ·exact r1.kp u2 (by show ¬ b=W0.heap.size;omega)
  ·exact(q2.then r2 (fun _ _ e=>e)).then u2 (fun k hk e=>by omega)
abbrev parV(A:OA)(n c:Nat)(o:List Cm×Int×Int×Int):Value:=.tuple #[.slice A n c,.agg #[.int .i64 o.2.1,.int .i64 o.2.2.1],.int .i64 o.2.2.2]
def ParO(w:World)(o:List Cm×Int×Int×Int)(ev:Ending)(w':World):Prop:=∃(A:OA)(n c:Nat),ev=.returned (parV A n c o)/\n=o.1.length/\aE w' w.heap.size 47 4 A n c (dP o.1)/\w.grownBy w' none
theorem C6{n:Nat}{s:Sn}{out:List Cm}(hn:s.l.length<n)(he:s.e≠0):jF n s out=([],s.p,s.q,s.e):=by
 match n with
 | n+1=>unfold jF;rw[if_pos he]
theorem BA{n:Nat}{s:Sn}{out:List Cm}(hn:s.l.length<n)(he:s.e=0)(hl:s.l=[]):jF n s out=(out,0,0,0):=by
 match n with
 | n+1=>unfold jF;rw[if_neg (by simp[he]),if_pos hl]
theorem BB{n:Nat}{s:Sn}{out:List Cm}(hn:s.l.length<n)(he:s.e=0)(hl:s.l≠[])(hk:cP (s.l.takeWhile cX)=0):jF n s out=([],s.p,s.q,30):=by
 match n with
 | n+1=>unfold jF;rw[if_neg (by simp[he]),if_neg hl,if_pos hk]
theorem AC {n:Nat} {s:Sn} {out:List Cm} (hn:s.l.length<n) (he:s.e=0) (hl:s.l≠[]) (hk:cP (s.l.takeWhile cX)≠0):∃ m,(iX (cP (s.l.takeWhile cX)) (skN (s.l.takeWhile cX).length s)).2.l.length<m/\m<n/\(iX (cP (s.l.takeWhile cX)) (skN (s.l.takeWhile cX).length s)).2.l.length<s.l.length ∧
    jF n s out=jF m (iX (cP (s.l.takeWhile cX)) (skN (s.l.takeWhile cX).length s)).2 (out++[(iX (cP (s.l.takeWhile cX)) (skN (s.l.takeWhile cX).length s)).1]):=by
  match n with
  | n + 1 =>
    obtain⟨k1,k2⟩:=vC hk;have kl:0<(s.l.takeWhile cX).length:=by
      rcases Nat.eq_zero_or_pos (s.l.takeWhile cX).length with hz | hz
      · rw[List.length_eq_zero_iff]at hz;rw[hz]at k1;exact absurd k2 (zQ (by rw[hz];exact k1.symm))
      · exact hz
    have ll:=AG (cP (s.l.takeWhile cX)) (skN (s.l.takeWhile cX).length s);rw[fI,List.length_drop]at ll;have lp:=List.length_pos_iff.2 hl;refine⟨n,by omega,by omega,by omega,?_⟩
    conv=>lhs;unfold jF
    rw[if_neg (by simp[he]),if_neg hl,if_neg hk]
theorem iE {w:World} {l:List Int} (hl:l.length<=2^30) (hb:aZ l):Calls P 13 #[fG l] w (ParO w (AB l)):=by
  apply vc13;dsimp only[VC13,rt,Wt,Br,Bb,Rd,Ap,Ws,cI,nb,iq];obtain⟨W0,DR,g0,b0⟩:=cC w #[.int .i64 0,.int .i64 0] 37;rw[← DR];have z0:=g0.size;have lt0:=(Array.getElem?_eq_some_iff.1 b0).1;refine(uH hl hb).mono fun ev w1 hh=>?_;obtain⟨rfl,hs,g1⟩:=hh;refine⟨_,rfl,(fK hs).mono fun ev w2 hh=>?_⟩;obtain⟨rfl,rfl⟩:=hh;have b1:=aD b0 g1;refine⟨_,_,rfl,fun m A n c more w'=>∃(q:Nat)(σ:Sn)(out:List Cm),Sq w' W0.heap.size σ/\aE w' w.heap.size 47 4 A n c (dP out)/\n=out.length/\w'.heap[w.heap.size]?=some (.cells #[.int .i64 0,.int .i64 0] 37 (0,0))/\w.grownBy w' none/\jF q σ out=AB l/\σ.l.length<q/\out.length+σ.l.length<=l.length/\more=(jX σ).2/\m=q,⟨_,l.length+1,_,[],hs,aE.nil _ _ _ _,rfl,b1,aB g0 g1,rfl,by simp only;omega,by simp,rfl,rfl⟩,?_⟩;rintro m A n c more w2 ⟨q,σ,out,h2,ho,rfl,b2,g2,hp,hq,ht,rfl,rfl⟩;have z2:=g2.size;refine⟨fun hm=>?_,fun hm=>?_⟩
  · have FW :σ.e=0/\σ.l≠[]:=by
      unfold jX at hm;split at hm
      · cases hm
      · rename_i he;exact⟨Decidable.not_not.1 he,of_decide_eq_true hm⟩
    obtain⟨he,Dq⟩:=FW;refine(jV h2).mono fun ev w3 hh=>?_;obtain⟨rfl,g3⟩:=hh;obtain⟨W4,Ke,g4,b4⟩:=cC w3 #[.int .i64 0,.int .i64 0] 37;rw[← Ke];have z3:=g3.size;have z4:=g4.size;have lt3:=(Array.getElem?_eq_some_iff.1 b4).1;obtain⟨V,hV,v1,v2,f⟩:=tG b4 (.int .i64 σ.p) (.int .i64 σ.q);refine⟨_,_,rfl,f.1,f.2.1,f.2.2.1,f.2.2.2,?_⟩;rw[← hV];have Kw:=aB g3 g4;have EK:=h2.lt;have gV:w2.grownBy V none:=((Kp.of_none Kw).then v2 (fun k hk e=>e)).grown (fun k hk e=>by omega);have Kg:=h2.kept gV;refine(uD Kg he).mono fun ev w5 hh=>?_;obtain⟨rfl,h5,k5⟩:=hh;refine⟨_,rfl,(xX (fun x hx=>h2.2.2.2 x (List.takeWhile_subset _ hx))).mono fun ev w6 hh=>?_⟩;obtain⟨rfl,g6⟩:=hh;have h6:=h5.kept g6;have k26:Kp w2 w6 (fun k=>k=W0.heap.size):=((Kp.of_none gV).then k5 (fun k hk e=>e)).then (Kp.of_none g6 (S:=fun _=>False)) (fun k hk e=>e.elim);have z5:=k5.size;have zV:=v2.size;have IJ:∀ {g:Nat} {o:Obj},g≠W0.heap.size->V.heap[g]?=some o->w6.heap[g]?=some o:=fun {g o} hg ho=>by
      exact aD (by rw[k5.block g (Array.getElem?_eq_some_iff.1 ho).1 hg];exact ho) g6
    have a6:=IJ (g:=w3.heap.size) (by omega) v1;have p6:w6.heap[w.heap.size]?=some (.cells #[.int .i64 0,.int .i64 0] 37 (0,0)):=IJ (by omega) (aD b2 gV);have Gv:w.grownBy w6 none:=((Kp.of_none g2).then k26 (fun k hk e=>e)).grown (fun k hk e=>by omega);refine⟨_,rfl,fun hk=>?_,fun hk=>?_⟩
    · obtain⟨U,hU,u1,u2,f⟩:=tG (W:=w6.drew) p6 (.int .i64 σ.p) (.int .i64 σ.q);refine⟨_,aA (w:=w6.drew) a6 0,_,aA (w:=w6.drew) a6 1,f.1,f.2.1,f.2.2.1,f.2.2.2,?_⟩;rw[← hU];refine⟨_,aA u1 0,_,aA u1 1,?_⟩;rw[BB hq he Dq hk]at hp;rw[← hp];exact⟨none,0,0,rfl,rfl,aE.nil _ _ _ _,((Kp.of_none (aG Gv)).then u2 (fun k hk e=>e)).grown (fun k hk e=>by omega)⟩
    · obtain⟨q',p1,p2,p3,p4⟩:=AC (out:=out) hq he Dq hk;refine(uF h6).mono fun ev w7 hh=>?_;obtain⟨rfl,h7,k7⟩:=hh;generalize hL:iX (cP (σ.l.takeWhile cX)) (skN (σ.l.takeWhile cX).length σ)=L at p1 p3 p4 h7 ⊢;have k27:=k26.then k7 (fun k hk e=>e);have z7:=k27.size;have p7:w7.heap[w.heap.size]?=some (.cells #[.int .i64 0,.int .i64 0] 37 (0,0)):=by rw[k7.block _ (Array.getElem?_eq_some_iff.1 p6).1 (by show ¬ w.heap.size=_;omega)];exact p6
      have o7:aE w7 w.heap.size 47 4 A out.length c (dP out):=ho.kp k27 (fun k hk e=>by
        subst e;obtain⟨cur,DE⟩:=ho.block_type _ hk;rw[h2.1]at DE;cases DE)
      obtain⟨W8,Kd,g8,b8⟩:=cC w7 #[.int .i64 L.1.k,.int .i64 L.1.t,.int .u64 L.1.u,.int .u64 L.1.v] 47;refine⟨_,_,_,_,rfl,?_⟩;rw[← Kd];have z8:=g8.size;obtain⟨A',n',c',w9,Dw,o9,g9,rfl⟩:=eJ (m:=1) (d:=1) (o7.kept g8) (nJ b8) rfl (fun h=>by cases h) (by omega) (by omega);have far:∀ k,(Value.slice A out.length c).ownBlock=some k->w.heap.size<k/\k≠W0.heap.size:=fun k hk=>by
        have h1:=o7.block_ge k hk;obtain⟨cur,DE⟩:=o7.block_type k hk;refine⟨?_,fun e=>?_⟩
        · rcases Nat.lt_or_ge w.heap.size k with h | h
          · exact h
          · obtain rfl:k=w.heap.size:=by omega
            rw[p7]at DE;cases DE
        · subst e;rw[h7.1]at DE;cases DE
      have K9:Kp w7 w9 (fun k=>some k=(Value.slice A out.length c).ownBlock):=(Kp.of_none g8).then (Kp.of_grown g9) (fun k hk e=>e);have h9:Sq w9 W0.heap.size L.2:=h7.kp K9 (fun e=>(far _ e.symm).2 rfl);have p9:w9.heap[w.heap.size]?=some (.cells #[.int .i64 0,.int .i64 0] 37 (0,0)):=by rw[K9.block _ (Array.getElem?_eq_some_iff.1 p7).1 (fun e=>by have:=(far _ e.symm).1;omega)];exact p7
      have GM:w.grownBy w9 none:=((Kp.of_none g2 (S:=fun k=>k=W0.heap.size∨w.heap.size<k)).then k27 (fun k hk e=>.inl e) |>.then K9 (fun k hk e=>.inr (far _ e.symm).1)).grown (fun k hk e=>by omega);refine⟨_,_,_,_,Dw,(fK h9).mono fun ev En hh=>?_⟩;obtain⟨rfl,rfl⟩:=hh;refine⟨_,_,rfl,q',p2,q',L.2,out++[L.1],h9,o9,by simp,p9,GM,by rw[← p4];exact hp,p1,by simp;omega,rfl,rfl⟩
  · refine(uI h2).mono fun ev w3 hh=>?_;obtain⟨rfl,rfl⟩:=hh;have lt:=(Array.getElem?_eq_some_iff.1 b2).1;refine⟨_,rfl,fun he=>?_,fun he=>?_⟩
    · refine(jV h2).mono fun ev w4 hh=>?_;obtain⟨rfl,g4⟩:=hh;obtain⟨U,hU,u1,u2,f⟩:=tG (aD b2 g4) (.int .i64 σ.p) (.int .i64 σ.q);refine⟨_,_,rfl,f.1,f.2.1,f.2.2.1,f.2.2.2,?_⟩;rw[← hU];refine⟨_,aA u1 0,_,aA u1 1,?_⟩;rw[C6 hq he]at hp;rw[← hp];exact⟨none,0,0,rfl,rfl,aE.nil _ _ _ _,((Kp.of_none (aB g2 g4)).then u2 (fun k hk e=>e)).grown (fun k hk e=>by omega)⟩
    · have he:=Decidable.not_not.1 he;have Ew:σ.l=[]:=by
        unfold jX at hm;rw[if_neg (by simp[he])]at hm;simpa using hm
      obtain⟨U,hU,u1,u2,f⟩:=tG b2 (.int .i64 0) (.int .i64 0);refine⟨f.1,f.2.1,f.2.2.1,f.2.2.2,?_⟩;rw[← hU];refine⟨_,aA u1 0,_,aA u1 1,?_⟩;rw[BA hq he Ew]at hp;rw[← hp];refine⟨A,_,c,rfl,rfl,ho.kp u2 (fun k hk e=>?_),((Kp.of_none g2).then u2 (fun k hk e=>e)).grown (fun k hk e=>by omega)⟩;obtain⟨cur,DE⟩:=ho.block_type _ hk;rw[e,b2]at DE;cases DE
def Ba:Array Value:=#[fG (dL 1),fG (dL 2),fG (dL 3),fG (dL 4),fG (dL 5),fG (dL 6)]
theorem Ai{i:Nat}(h:i<6):Ba[i]?=some (fG (dL ((i:Int)+1))):=by
 match i,h with
 | 0,_=>rfl
 | 1,_=>rfl
 | 2,_=>rfl
 | 3,_=>rfl
 | 4,_=>rfl
 | 5,_=>rfl
theorem sJ{w:World}:Calls P 22 #[] w fun ev w'=>ev=.returned (.slice (some ⟨w.heap.size,0,none⟩) 6 6)/\w'.heap[w.heap.size]?=some (.cells Ba 9 (0,0))/\w.grownBy w' none:=by
 apply vc22;dsimp only[VC22,nb];exact⟨rfl,heap_alloc_new w _,World.grownBy_alloc w _ none⟩
end Go.Proofs.YtdlomlmijdifbaaGreatDoor

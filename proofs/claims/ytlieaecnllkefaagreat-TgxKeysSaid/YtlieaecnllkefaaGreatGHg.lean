/- Own texts, packed: F1, F2, F3, F4, F5, F6. -/
import Derived.Test.YtlieaecnllkefaaGreatGBg
import Derived.Test.YtlieaecnllkefaaGreatGFg
import Derived.Test.YtlieaecnllkefaaGreatGXg
import Derived.Test.YtlieaecnllkefaaGreatGEg
import Derived.Test.YtlieaecnllkefaaGreatGCg
import Derived.Test.YtlieaecnllkefaaGreatGGg
set_option linter.unusedVariables false
set_option linter.unusedSimpArgs false
set_option maxHeartbeats 4000000
set_option maxRecDepth 100000
namespace Go.Proofs.YtlieaecnllkefaaGreat
open Go Go.V Go.RowKit
theorem yy{w:World}{A:OA}{n c:Nat}{xs:List Int}{v:Int}(hr:aZ w A (aS xs))(hn:n=xs.length)(hb:n<=2^40):
    Calls P 189 #[.slice A n c,.int .i64 v] w fun ev w'=>∃ i:Int,ev=.returned (.int .i64 i)/\(0<=i↔v∈xs)/\w.grownBy w' none:=by
  apply vc189;dsimp only[VC189,Br,Rd,Ix,iq]
  try simp only[aF]
  refine⟨fun m i w'=>∃ j:Nat,i=(j:Int)/\j<=xs.length/\m=xs.length-j/\v ∉ xs.take j/\w.grownBy w' none,⟨_,0,rfl,by omega,rfl,by simp,aC _ _⟩,?_⟩;rintro m i w' ⟨j,rfl,hj,rfl,hv,hg⟩;refine⟨fun FE=>?_,fun FJ=>?_⟩
  · have l1:j<xs.length:=by omega
    obtain⟨a,FU,FP⟩:=(hr.kept_none hg) j (.int .i64 xs[j]) (by simp[aS,l1]);refine⟨a,FU,by omega,by omega,_,FP,fun he=>⟨_,rfl,?_,hg⟩,fun FG=>⟨by omega,xs.length-(j+1),by omega,j+1,by omega,by omega,rfl,?_,hg⟩⟩
    · rw[he];exact⟨fun _=>List.getElem_mem l1,fun _=>by omega⟩
    · rw[List.take_succ_eq_append_getElem l1];simp only[List.mem_append,List.mem_singleton,not_or];exact⟨hv,FG⟩
  · have:j=xs.length:=by omega
    subst this;rw[List.take_length]at hv;exact⟨_,rfl,⟨fun h=>by omega,fun h=>absurd h hv⟩,hg⟩
theorem uK{w:World}{A:OA}{n c:Nat}{xs:List Int}{v:Int}(hr:aZ w A (aS xs))(hn:n=xs.length)(hb:n<=2^40):
    Calls P 180 #[.slice A n c,.int .i64 v] w fun ev w'=>ev=.returned (.bool (xs.contains v))/\w.grownBy w' none:=by
  apply vc180;dsimp only[VC180,cI,iq];refine(yy hr hn hb).mono fun ev w' hh=>?_;obtain⟨i,rfl,hi,hg⟩:=hh;refine⟨i,rfl,?_,hg⟩;congr 2;rw[Bool.eq_iff_iff,decide_eq_true_iff,List.contains_iff_mem];exact hi
theorem sH{w:World}{A:OA}{n c:Nat}{l:List Int}(hr:aZ w A (aS l))(hn:n=l.length)(hl:l.length<=2^40):
    Calls P 156 #[.slice A n c] w fun ev w'=>∃(A':OA)(n' c':Nat),ev=.returned (.slice A' n' c')/\cP w' w.heap.size 3 A' n' c' (aS l)/\w.grownBy w' none:=by
  apply vc156;dsimp only[VC156,Br,Ap,nb];refine⟨fun h=>?_,fun h=>?_⟩
  · subst h;have:l=[]:=by
      cases l with
      | nil=>rfl
      | cons x l=>obtain⟨a,e,_⟩:=hr 0 _ rfl;cases e
    subst this;exact⟨none,0,0,rfl,World.ownsRow_nil _ _ _ _,aC _ _⟩
  · obtain⟨a,rfl⟩:∃ a,A=some a:=by cases A with
      | none=>exact absurd rfl h
      | some a=>exact⟨a,rfl⟩
    have hg:=World.grownBy_alloc w (.cells #[] 3) none;have ho:cP (w.alloc (.cells #[] 3)) w.heap.size 3 (some ⟨w.heap.size,0,none⟩) 0 0 []:=⟨rfl,.inr ⟨w.heap.size,0,#[],rfl,Nat.le_refl _,heap_alloc_new w _,Nat.le_refl _,Nat.zero_le _,rfl,rfl⟩⟩;obtain⟨A',n',c',w',h1,h2,h4⟩:=ho.appends (ty:=33) iD (by omega) (a:=a) (m:=n) (cc:=c) (us:=aS l) (by simp[hn]) (fun j u hj=>by obtain⟨b,e1,e2⟩:=(hr.kept_none hg) j u hj;cases e1;exact e2) (fun u hu=>by obtain⟨x,_,rfl⟩:=List.mem_map.1 hu;rfl) (by omega) hg.size;exact⟨A',n',c',w',h1,A',n',c',rfl,by simpa using h2,aN hg h4 ho.block_ge⟩
theorem q9 {w:World} {A:OA} {n c:Nat} {ls:List Int} (hr:aZ w A (aS ls)) (hn:n=ls.length) (hb:n<=2^20) :
    Calls P 155 #[.slice A n c] w fun ev w'=>ev=.returned (.bool (bY ls))/\w.grownBy w' none:=by
  apply vc155;dsimp only[VC155,rb,Br,Bb,Rd,Ix,cI,cB,iq]
  try simp only[aF]
  refine⟨fun m s i w'=>∃ j:Nat,i=(j:Int)/\j<=ls.length/\m=ls.length-j/\(∀ x∈ls.take j,0<=x/\x<=15)/\s=(cH (ls.take j):Int)/\w.grownBy w' none,⟨_,0,rfl,by omega,rfl,by simp,by simp[cH],aC _ _⟩,?_⟩;rintro m s i w' ⟨j,rfl,hj,rfl,FQ,rfl,hg⟩;have JM:=jt (ls.take j);have IQ:(ls.take j).length=j:=by simp;omega
  refine⟨fun FE=>?_,fun FJ=>?_⟩
  · have l1:j<ls.length:=by omega
    obtain⟨a,FU,FP⟩:=(hr.kept_none hg) j (.int .i64 ls[j]) (by simp[aS,l1]);refine⟨a,FU,by omega,by omega,_,FP,fun h=>⟨by rw[lB (List.getElem_mem l1) (.inl h)],hg⟩,fun h=>⟨fun h'=>⟨by rw[lB (List.getElem_mem l1) (.inr (by omega))],hg⟩,fun h'=>?_⟩⟩;have MZ:mn ls[j] 1=if 0<ls[j] then 1 else 0:=by unfold mn;split <;>split <;>omega
    have JB:(cH (ls.take j):Int)+mn ls[j] 1=(cH (ls.take (j+1)):Int):=by
      rw[List.take_succ_eq_append_getElem l1,vO,MZ];split <;>simp
    have Hc:0<=mn ls[j] 1/\mn ls[j] 1<=1:=by rw[MZ];split <;>omega
    refine⟨by omega,by omega,ls.length-(j+1),by omega,j+1,by omega,by omega,rfl,?_,JB,hg⟩;intro x hx;rw[List.take_succ_eq_append_getElem l1]at hx;rcases List.mem_append.1 hx with e | e
    · exact FQ x e
    · have:x=ls[j]:=by simpa using e
      omega
  · have:j=ls.length:=by omega
    subst this;rw[List.take_length]at FQ JM ⊢;have hR:=tI FQ;refine⟨fun h1=>?_,fun h1=>⟨fun h2=>?_,fun h2=>?_⟩⟩
    · have Ii:cH ls=1:=by omega
      refine(uK (hr.kept_none hg) hn (by omega)).mono fun ev w2 hh=>?_;obtain⟨rfl,g2⟩:=hh;have FN:=aA hg g2;rw[Ew Ii];refine⟨_,rfl,fun h2=>⟨fun h3=>⟨?_,FN⟩,fun h3=>?_⟩,fun h2=>⟨?_,FN⟩⟩
      · rw[hR,h3];simp[Ii];omega
      · refine(rG (hr.kept_none FN) hn (by omega)).mono fun ev w3 hh=>?_;obtain⟨rfl,g3⟩:=hh;refine⟨_,rfl,?_,aA FN g3⟩;rw[hR,h3];have:ls.length<=256:=by omega
        simp[this]
      · rw[hR];have:¬ ls.length<=256:=by omega
        simp[this]
    · refine(rG (hr.kept_none hg) hn (by omega)).mono fun ev w3 hh=>?_;obtain⟨rfl,g3⟩:=hh;refine⟨_,rfl,?_,aA hg g3⟩;have:ls.length<=256:=by omega
      have Ii:¬ cH ls=1:=by omega
      rw[hR];simp[this,Ii]
    · refine⟨?_,hg⟩;have:¬ ls.length<=256:=by omega
      rw[hR];simp[this]
theorem mM {w:World} {A:OA} {n c:Nat} {ls:List Int} (hr:aZ w A (aS ls)) (hn:n=ls.length) :
    Calls P 90 #[.slice A n c] w fun ev w'=>ev=.returned (.bool (bY ls))/\w.grownBy w' none:=by
  apply vc90;dsimp only[VC90,rb,Br,Bb,Rd,Ix,cI]
  try simp only[aF]
  refine⟨fun h=>⟨?_,aC _ _⟩,fun h=>?_⟩
  · have:¬ ls.length<=256:=by omega
    have hR:bY ls=false:=by unfold bY;simp[this]
    rw[hR]
  have H0:ls.length<=256:=by omega
  refine⟨fun m s one i w'=>∃ j:Nat,i=(j:Int)/\j<=ls.length/\m=ls.length-j/\(∀ x∈ls.take j,0<=x/\x<=15)/\s=(cH (ls.take j):Int)/\one=(ls.take j).all (fun x=>decide (x<=1))/\w.grownBy w' none,⟨_,0,rfl,by omega,rfl,by simp,by simp[cH],by simp,aC _ _⟩,?_⟩;rintro m s one i w' ⟨j,rfl,hj,rfl,FQ,rfl,rfl,hg⟩;have JM:=jt (ls.take j);have IQ:(ls.take j).length=j:=by simp;omega
  refine⟨fun FE=>?_,fun FJ=>?_⟩
  · have l1:j<ls.length:=by omega
    obtain⟨a,FU,FP⟩:=(hr.kept_none hg) j (.int .i64 ls[j]) (by simp[aS,l1]);refine⟨a,FU,by omega,by omega,_,FP,fun h=>⟨by rw[lB (List.getElem_mem l1) (.inl h)],hg⟩,fun h=>⟨a,FU,by omega,by omega,_,FP,fun h'=>⟨by rw[lB (List.getElem_mem l1) (.inr (by omega))],hg⟩,fun h'=>⟨a,FU,by omega,by omega,_,FP,?_⟩⟩⟩;have J8:∀ x∈ls.take (j+1),0<=x/\x<=15:=by
      intro x hx;rw[List.take_succ_eq_append_getElem l1]at hx;rcases List.mem_append.1 hx with e | e
      · exact FQ x e
      · have:x=ls[j]:=by simpa using e
        omega
    have JB:(cH (ls.take (j+1)):Int)=(cH (ls.take j):Int)+if 0<ls[j] then 1 else 0:=by
      rw[List.take_succ_eq_append_getElem l1,vO];split <;>simp
    have HT:(ls.take (j+1)).all (fun x=>decide (x<=1))=((ls.take j).all (fun x=>decide (x<=1)) && decide (ls[j]<=1)):=by
      rw[List.take_succ_eq_append_getElem l1,List.all_append];simp
    refine⟨fun hp=>⟨by omega,fun ht=>⟨a,FU,by omega,by omega,_,FP,by omega,ls.length-(j+1),by omega,j+1,by omega,by omega,rfl,J8,by rw[JB,if_pos hp],?_,hg⟩,fun hf=>⟨by omega,ls.length-(j+1),by omega,j+1,by omega,by omega,rfl,J8,by rw[JB,if_pos hp],?_,hg⟩⟩,fun hp=>⟨by omega,ls.length-(j+1),by omega,j+1,by omega,by omega,rfl,J8,by rw[JB,if_neg (by omega)];omega,?_,hg⟩⟩
    · rw[HT,ht,Bool.true_and];by_cases e:ls[j]=1
      · simp[e]
      · have:¬ ls[j]<=1:=by omega
        simp[e,this]
    · rw[HT,hf];rfl
    · have:ls[j]<=1:=by omega
      rw[HT];simp[this]
  · have:j=ls.length:=by omega
    subst this;rw[List.take_length]at FQ JM ⊢;have hR:=tI FQ;refine⟨fun h1=>⟨fun h2=>⟨?_,hg⟩,fun h2=>?_⟩,fun h1=>?_⟩
    · have Ii:cH ls=1:=by omega
      rw[hR,h2];simp[Ii,H0]
    · refine(mN (hr.kept_none hg) hn (by omega)).mono fun ev w3 hh=>?_;obtain⟨rfl,g3⟩:=hh;refine⟨_,rfl,?_,aA hg g3⟩;rw[hR,h2];simp[H0]
    · refine(mN (hr.kept_none hg) hn (by omega)).mono fun ev w3 hh=>?_;obtain⟨rfl,g3⟩:=hh;refine⟨_,rfl,?_,aA hg g3⟩;have Ii:¬ cH ls=1:=by omega
      rw[hR];simp[H0,Ii]
abbrev nI(l:List Nat):List Int:=l.map fun s:Nat=>(s:Int)
theorem DD{w:World}{g:Nat}{lenv:Addr}{A:OA}{n c:Nat}{ls:List Int}(FK:w.cell? lenv=some (.slice A n c))(hr:aZ w A (aS ls))(hn:n=ls.length)(h1:lenv.block≠g)(h2:∀ a,A=some a->a.block≠g){L:List Nat}(hL:∀ s∈L,s<ls.length):
    jS lenv w g (fun x=>ln ls x.toNat) (nI L):=by
  intro w' hg x hx y hy;obtain⟨s,hs,rfl⟩:=List.mem_map.1 hx;obtain⟨t,ht,rfl⟩:=List.mem_map.1 hy;have ls':=hL s hs;have lt':=hL t ht;have J5:w'.drew.cell? lenv=some (.slice A n c):=hg.cell FK (by simpa using h1);have Lf:aZ w'.drew A (aS ls):=hr.kept (aH hg) (fun a ha=>by simpa using h2 a ha);show Calls P 183 #[.int .i64 (s:Int),.int .i64 (t:Int),.pointer (some lenv)] w' _;apply vc183;dsimp only[VC183,Rd,Rs,Ix,cI,iq];obtain⟨a,FU,FP⟩:=Lf s (.int .i64 ls[s]) (by simp[aS,ls']);obtain⟨b,Hc,FX⟩:=Lf t (.int .i64 ls[t]) (by simp[aS,lt']);have ts:(s:Int).toNat=s:=by omega
  have tt:(t:Int).toNat=t:=by omega
  rw[ts,tt];refine⟨_,_,_,J5,a,FU,by omega,by omega,_,FP,_,_,_,J5,b,Hc,by omega,by omega,_,FX,?_⟩;refine og.mono fun ev w2 hh=>?_;obtain⟨c,h3,h4,rfl⟩:=hh;refine⟨c,h3,c,rfl,?_,aH (aC _ _)⟩;rw[h4];show _↔ln ls (s:Int).toNat<ln ls (t:Int).toNat;rw[ts,tt,kh ls',kh lt']
theorem tS{ls:List Int}(h:bY ls=true):eD ls≠[]:=by
 obtain⟨h1,h2,h3⟩:=dZ h;intro e;have hp:jp ls=[]:=by
  have:=(jB ls).length_eq;rw[e]at this;exact List.eq_nil_of_length_eq_zero this.symm
 rcases h3 with h3 | h3
 ·rw[hp]at h3;simp at h3
 ·have:=zr h2;rw[e,CN]at this;omega
theorem yX {w:World} {A:OA} {n c:Nat} {ls:List Int} (hr:aZ w A (aS ls)) (hn:n=ls.length) (hb:n<=2^20) :
    Calls P 157 #[.slice A n c] w fun ev w'=>∃(A':OA)(n' c':Nat),ev=.returned (.slice A' n' c')/\cP w' w.heap.size 3 A' n' c' (aS (eF ls))/\w.grownBy w' none:=by
  apply vc157;dsimp only[VC157,Wt,Br,Rd,Rs,Ix,Ap,cB,cU,nb,iq]
  try simp only[aF]
  have g1:=World.grownBy_alloc w (.cells #[.slice A n c] 33) none;have h0:=heap_alloc_new w (.cells #[.slice A n c] 33);obtain⟨w1,GB⟩:∃ w1,w1=w.alloc (.cells #[.slice A n c] 33):=⟨_,rfl⟩;rw[← GB]at g1 h0 ⊢;have IS:∀ w',w1.grownBy w' none->w'.cell? ⟨w.heap.size,0,none⟩=some (.slice A n c):=by
    intro w' hg;have:=hg.block w.heap.size (Array.getElem?_eq_some_iff.1 h0).1 (by simp);rw[h0]at this;exact aB this 0
  have Hm:=hr.kept_none g1;refine⟨_,_,_,IS w1 (aC _ _),?_⟩;refine(q9 Hm hn hb).mono fun ev w2 hh=>?_;obtain⟨rfl,g2⟩:=hh;refine⟨_,rfl,fun hf=>?_,fun ht=>?_⟩
  · refine⟨none,0,0,rfl,?_,aA g1 g2⟩;have:eF ls=[]:=by unfold eF;rw[hf];rfl
    rw[this];exact World.ownsRow_nil _ _ _ _
  have hR:bY ls=true:=by simpa using ht
  obtain⟨H0,Hv,_⟩:=dZ hR;refine⟨_,_,_,IS w2 g2,?_⟩;refine⟨fun m Ao no co i w3=>∃ j:Nat,i=(j:Int)/\j<=ls.length/\m=ls.length-j/\cP w3 w2.heap.size 3 Ao no co (aS (nI ((List.range j).filter fun s=>decide (0<ln ls s))))/\w2.grownBy w3 none,
    ⟨_,0,rfl,by omega,rfl,World.ownsRow_nil _ _ _ _,aC _ _⟩,?_⟩
  rintro m Ao no co i w3 ⟨j,rfl,hj,rfl,ho,Gb⟩;have tj:(j:Int).toNat=j:=by omega
  rw[tj];have Xj:((List.range j).filter fun s=>decide (0<ln ls s)).length<=j:=by
    have:=List.length_filter_le (fun s=>decide (0<ln ls s)) (List.range j);simpa using this
  have GK:no=((List.range j).filter fun s=>decide (0<ln ls s)).length:=by rw[ho.cases.1];simp[aS]
  refine⟨fun FE=>?_,fun FJ=>?_⟩
  · have l1:j<ls.length:=by omega
    obtain⟨a,FU,FP⟩:=(Hm.kept_none (aA g2 Gb)) j (.int .i64 ls[j]) (by simp[aS,l1]);have IQ:=kh l1;refine⟨a,FU,by omega,by omega,_,FP,fun hp=>?_,fun hp=>⟨by omega,ls.length-(j+1),by omega,j+1,by omega,by omega,rfl,?_,Gb⟩⟩
    · obtain⟨A4,n4,c4,w4,e1,e2,e3⟩:=AM (x:=(j:Int)) ho (by omega) Gb.size;refine⟨A4,n4,c4,w4,e1,by omega,ls.length-(j+1),by omega,j+1,by omega,by omega,rfl,?_,aN Gb e3 ho.block_ge⟩;have:nI ((List.range (j+1)).filter fun s=>decide (0<ln ls s))=nI ((List.range j).filter fun s=>decide (0<ln ls s))++[(j:Int)]:=by
        rw[List.range_succ,List.filter_append];have:decide (0<ln ls j)=true:=by rw[IQ];simpa using hp
        simp[nI,List.filter_cons,this]
      rw[this];exact e2
    · have:(List.range (j+1)).filter (fun s=>decide (0<ln ls s))=(List.range j).filter fun s=>decide (0<ln ls s):=by
        rw[List.range_succ,List.filter_append];have:decide (0<ln ls j)=false:=by rw[IQ];simpa using hp
        simp[List.filter_cons,this]
      rw[this];exact ho
  · have GL:j=ls.length:=by omega
    subst GL;have IX:cP w3 w2.heap.size 3 Ao no co (aS (nI (jp ls))):=ho;have FG:=tS hR;have JM:(eD ls).length=(jp ls).length:=(jB ls).length_eq;have G0:0<(eD ls).length:=List.length_pos_iff.2 FG;have LX:no=(jp ls).length:=GK;obtain⟨_,h | ⟨g,rfl,Xs,Te,MX,FF⟩⟩:=IX.cases
    · omega
    have KJ:=aA g2 Gb;have Kq:=IS w3 KJ;have Kl:=Hm.kept_none KJ;have Gn:=g2.size;have Ux:=(Array.getElem?_eq_some_iff.1 h0).1;have II:∀ a,A=some a->a.block<w1.heap.size:=by
      intro a ha;obtain⟨b,e1,e2⟩:=Hm.blk (by intro e;have:ls=[]:=(by simpa[aS]using e);rw[this]at G0;simp[eD,jp,dk]at G0);rw[ha]at e1;cases e1;exact e2
    have cmp:=DD (g:=g) Kq Kl hn (by show w.heap.size≠g;omega) (fun a ha=>by have:=II a ha;omega) (L:=jp ls) (fun s hs=>(tT.1 hs).1);refine(El ⟨w.heap.size,0,none⟩ FF cmp (by simp[nI];omega) (by omega)).mono fun ev w4 hh=>?_;obtain⟨rfl,JO,FS⟩:=hh;have KD:dk (fun x:Int=>ln ls x.toNat) (nI (jp ls))=nI (eD ls):=mY (fun s:Nat=>(s:Int)) (fun x:Int=>ln ls x.toNat) (ln ls) (jp ls) (fun y _=>by simp);rw[KD]at JO;have Js:w4.cell? ⟨w.heap.size,0,none⟩=some (.slice A n c):=FS.cell Kq (by simp;omega);have UB:aZ w4 A (aS ls):=Kl.kept FS (fun a ha=>by have:=II a ha;simp;omega);refine⟨rfl,_,_,_,Js,?_⟩;obtain⟨w5,NP,NU,Hr⟩:=il (P:=P) (w:=w4) iD (by omega) (m:=n) (by omega);refine⟨_,_,_,w5,NP,?_⟩;have Me:g<w4.heap.size:=JO.lt;have Qa:w1.heap.size<=w4.heap.size:=Nat.le_trans KJ.size FS.size;have rd:∀ w6,w5.grownBy w6 (some w4.heap.size)->w6.cell? ⟨w.heap.size,0,none⟩=some (.slice A n c)/\aZ w6 A (aS ls)/\aZ w6 (some ⟨g,0,none⟩) (aS (nI (eD ls))):=by
      intro w6 Ho;refine⟨Ho.cell (Hr.cell Js (by simp)) (by simp;omega),(UB.kept_none Hr).kept Ho (fun a ha=>by have:=II a ha;simp;omega),(JO.row.kept_none Hr).kept Ho (fun a ha=>by cases ha;simp;omega)⟩
    refine⟨fun m nx la i w6=>∃ k:Nat,i=(k:Int)/\k<=(eD ls).length/\m=(eD ls).length-k/\nx=(cw ls ((eD ls).take k)).1/\la=(cw ls ((eD ls).take k)).2.1/\cV w6 w4.heap.size 3 n (aS (cw ls ((eD ls).take k)).2.2)/\w5.grownBy w6 (some w4.heap.size),
      ⟨_,0,rfl,by omega,rfl,rfl,rfl,?_,aC _ _⟩,?_⟩
    · simpa[cw,aS,hn]using NU
    rintro m nx la i w6 ⟨k,rfl,hk,rfl,rfl,rfl,HG,Ho⟩;have tk:(k:Int).toNat=k:=by omega
    rw[tk];obtain⟨q1,q2,q3⟩:=rd w6 Ho;refine⟨fun FE=>?_,fun FJ=>?_⟩
    · have lk:k<(eD ls).length:=by omega
      obtain⟨b,Hc,FX⟩:=q3 k (.int .i64 ((eD ls)[k]:Int)) (by simp[aS,nI,lk]);have LM:eD ls=(eD ls).take k++(eD ls)[k] ::(eD ls).drop (k+1):=by rw[List.getElem_cons_drop,List.take_append_drop]
      obtain⟨c1,c2,c3,c4,c5,c6,c7,c8,c9,c10,c11⟩:=wg hR LM;have FM:(eD ls).take (k+1)=(eD ls).take k++[(eD ls)[k]]:=List.take_succ_eq_append_getElem lk;generalize hs:(eD ls)[k]=s at *;obtain⟨a,FU,FP⟩:=q2 s (.int .i64 ls[s]) (by simp[aS,c7]);have HK:ls[s]=ln ls s:=(kh c7).symm;rw[HK]at FP;have ts:(s:Int).toNat=s:=by omega
      refine⟨b,Hc,by omega,by omega,(s:Int),FX,?_⟩;rw[ts];have mnx:min (ln ls s-(cw ls ((eD ls).take k)).2.1).toNat 64=(ln ls s-(cw ls ((eD ls).take k)).2.1).toNat:=by omega
      have FK:=HG.cell (j:=s) (u:=.int .i64 ((cw ls ((eD ls).take k)).2.2[s]'(by omega))) (by simp[aS,c10,c7]);refine⟨_,_,_,q1,a,FU,by omega,by omega,_,FP,by omega,?_⟩;rw[mnx,c4];refine⟨⟨by omega,by omega⟩,_,_,_,q1,a,FU,by omega,by omega,_,FP,_,rfl,by omega,by omega,⟨_,FK⟩,HG.notFrozen (aK _ _),by omega,by omega,(eD ls).length-(k+1),by omega,k+1,by omega,by omega,rfl,?_,?_,?_,bD Ho (aK _ _) _⟩
      · rw[FM,c11]
      · rw[FM,c11]
      · rw[FM,c11];have Gh:=HG.set (j:=s) (by simp[aS,c10,c7]) (.int .i64 (cd ls s));simpa[aS,List.map_set]using Gh
    · have Gc:k=(eD ls).length:=by omega
      subst Gc;rw[List.take_length]at HG;have Hk:(cw ls (eD ls)).2.2=eF ls:=(eO hR).2.symm;rw[Hk]at HG;have FL:w.heap.size<=w4.heap.size:=Nat.le_trans g1.size Qa;have h5:=HG.ownsRow FL (by simp only[maxLen];omega);have:(aS (eF ls)).length=n:=by simp[aS,eg hR,hn]
      rw[this]at h5;refine⟨_,_,_,rfl,h5,?_⟩;have e1:=aN (aA g1 KJ) FS (by intro q hq;cases hq;have:=g1.size;omega);exact aN (aA e1 Hr) Ho (by intro q hq;cases hq;exact FL)
theorem mO {w:World} {A:OA} {n c:Nat} {ls:List Int} (hr:aZ w A (aS ls)) (hn:n=ls.length) (hb:n<=2^20) :
    Calls P 91 #[.slice A n c] w fun ev w'=>∃(A':OA)(n' c':Nat),ev=.returned (.slice A' n' c')/\cP w' w.heap.size 3 A' n' c' (aS (eF ls))/\w.grownBy w' none:=by
  apply vc91;dsimp only[VC91,Wt,Br,Rd,Ix,cB,iq]
  try simp only[aF]
  refine(mM hr hn).mono fun ev w1 hh=>?_;obtain⟨rfl,g1⟩:=hh;refine⟨_,rfl,fun hf=>?_,fun ht=>?_⟩
  · refine⟨none,0,0,rfl,?_,g1⟩;have:eF ls=[]:=by unfold eF;rw[hf];rfl
    rw[this];exact World.ownsRow_nil _ _ _ _
  have hR:bY ls=true:=by simpa using ht
  obtain⟨H0,Hv,_⟩:=dZ hR;obtain⟨w2,HF,FF,g2⟩:=il (P:=P) (w:=w1) iD (by omega) (m:=n) (by omega);refine⟨_,_,_,w2,HF,?_⟩;have G0:0<(eD ls).length:=List.length_pos_iff.2 (tS hR);have II:∀ a,A=some a->a.block<w1.heap.size:=by
    intro a ha;obtain⟨b,e1,e2⟩:=(hr.kept_none g1).blk (by intro e;have:ls=[]:=(by simpa[aS]using e);rw[this]at G0;simp[eD,jp,dk]at G0);rw[ha]at e1;cases e1;exact e2
  have rd:∀ w3,w2.grownBy w3 (some w1.heap.size)->aZ w3 A (aS ls):=fun w3 h3=>((hr.kept_none g1).kept_none g2).kept h3 (fun a ha=>by have:=II a ha;simp;omega);refine⟨fun m nx la n' w3=>∃ k:Nat,n'=((k+1:Nat):Int)/\k<=15/\m=15-k/\nx=(cw ls (f9 ls k)).1/\la=(cw ls (f9 ls k)).2.1/\cV w3 w1.heap.size 3 n (aS (cw ls (f9 ls k)).2.2)/\w2.grownBy w3 (some w1.heap.size),
    ⟨_,0,rfl,by omega,rfl,rfl,rfl,by simpa[f9,cw,aS,hn]using FF,aC _ _⟩,?_⟩
  rintro m nx la n' w3 ⟨k,rfl,hk,rfl,rfl,rfl,Gj,Gb⟩;refine⟨fun FW=>?_,fun GM=>?_⟩
  · have QO :k<15:=by omega
    refine⟨fun m nx la i w4=>∃ s:Nat,i=(s:Int)/\s<=ls.length/\m=ls.length-s/\nx=(cw ls (f9 ls k++o0 ls s (k+1))).1/\la=(cw ls (f9 ls k++o0 ls s (k+1))).2.1/\cV w4 w1.heap.size 3 n (aS (cw ls (f9 ls k++o0 ls s (k+1))).2.2)/\w2.grownBy w4 (some w1.heap.size),
      ⟨_,0,rfl,by omega,rfl,by simp[o0],by simp[o0],by simpa[o0]using Gj,Gb⟩,?_⟩
    rintro m nx la i w4 ⟨s,rfl,hs,rfl,rfl,rfl,GJ,FS⟩;have ts:(s:Int).toNat=s:=by omega
    rw[ts];refine⟨fun FE=>?_,fun FJ=>?_⟩
    · have l1:s<ls.length:=by omega
      obtain⟨a,FU,FP⟩:=(rd w4 FS) s (.int .i64 ls[s]) (by simp[aS,l1]);have HK:ls[s]=ln ls s:=(kh l1).symm;rw[HK]at FP;refine⟨a,FU,by omega,by omega,_,FP,fun he=>?_,fun FG=>⟨by omega,ls.length-(s+1),by omega,s+1,by omega,by omega,rfl,?_⟩⟩
      · obtain⟨B,hB⟩:=Fo hR QO l1 he;obtain⟨c1,c2,c3,c4,c5,c6,c7,c8,c9,c10,c11⟩:=wg hR hB;have Qz:(cw ls (f9 ls k++o0 ls s (k+1))).1*2^(min (((k+1:Nat):Int)-mx (cw ls (f9 ls k++o0 ls s (k+1))).2.1 1).toNat 64)=cd ls s:=by
          by_cases h0:(cw ls (f9 ls k++o0 ls s (k+1))).2.1=0
          · have:=c3 h0;rw[← c4,this];simp
          · have e1:mx (cw ls (f9 ls k++o0 ls s (k+1))).2.1 1=(cw ls (f9 ls k++o0 ls s (k+1))).2.1:=by unfold mx;split <;>omega
            rw[e1,← he];have e2:min (ln ls s-(cw ls (f9 ls k++o0 ls s (k+1))).2.1).toNat 64=(ln ls s-(cw ls (f9 ls k++o0 ls s (k+1))).2.1).toNat:=by omega
            rw[e2];exact c4
        have SE:mx (cw ls (f9 ls k++o0 ls s (k+1))).2.1 1<=((k+1:Nat):Int)/\1<=mx (cw ls (f9 ls k++o0 ls s (k+1))).2.1 1:=by unfold mx;split <;>omega
        rw[Qz];have QD:f9 ls k++o0 ls (s+1) (k+1)=(f9 ls k++o0 ls s (k+1))++[s]:=by rw[uf,if_pos he];simp
        have FK:=GJ.cell (j:=s) (u:=.int .i64 ((cw ls (f9 ls k++o0 ls s (k+1))).2.2[s]'(by omega))) (by simp[aS,c10,c7]);refine⟨by omega,⟨by omega,by omega⟩,_,rfl,by omega,by omega,⟨_,FK⟩,GJ.notFrozen (aK _ _),by omega,by omega,ls.length-(s+1),by omega,s+1,by omega,by omega,rfl,?_,?_,?_,bD FS (aK _ _) _⟩
        · rw[QD,c11]
        · rw[QD,c11,he]
        · rw[QD,c11];have Gh:=GJ.set (j:=s) (by simp[aS,c10,c7]) (.int .i64 (cd ls s));simpa[aS,List.map_set]using Gh
      · rw[uf,if_neg FG,List.append_nil];exact⟨rfl,rfl,GJ,FS⟩
    · have Py:s=ls.length:=by omega
      subst Py;refine⟨by omega,15-(k+1),by omega,k+1,by omega,by omega,rfl,?_⟩;rw[kN];exact⟨rfl,rfl,GJ,FS⟩
  · have Gc:k=15:=by omega
    subst Gc;rw[← vU hR,← (eO hR).2]at Gj;have h5:=Gj.ownsRow g1.size (by simp only[maxLen];omega);have:(aS (eF ls)).length=n:=by simp[aS,eg hR,hn]
    rw[this]at h5;exact⟨_,_,_,rfl,h5,aN (aA g1 g2) Gb (by intro q hq;cases hq;exact g1.size)⟩
def qN(p:Int×Int):Value:=.agg #[.int .i64 p.1,.int .i64 p.2]
def C9(x:Int):Prop:=-9223372036854775808<=x/\x<=9223372036854775807
def ye(p:Int×Int):Prop:=C9 p.1/\C9 p.2
theorem vz{x:Int}(h:C9 x):(Lit.int .i64 x).wf=true:=by
 have h1:IntKind.i64.min=-9223372036854775808:=rfl;have h2:IntKind.i64.max=9223372036854775807:=rfl;obtain⟨a,b⟩:=h;simp only[Lit.wf,Bool.and_eq_true,decide_eq_true_eq];omega
theorem Ft:WideMaps.ArrKey P 228 3 2:=by
 constructor <;>first | kernel_rfl | decide
theorem keyT:CH P 228 qN ye where
 law:=Maps.Keyed.of_law (deep_law (m:=3) (by omega) (by kernel_rfl) (by kernel_rfl) (by kernel_rfl))
 key:=fun x hx=>⟨_,WideMaps.keyOf_pair Ft (by kernel_rfl) ⟨P.types.size-1,by kernel_rfl⟩ (vz hx.1) (vz hx.2)⟩
 inj:=by
  rintro⟨a,b⟩ ⟨c,d⟩ h;simp[qN]at h;simp[h]
def Sym(ls:List Int)(j:Nat)(p:Int×Int)(v:Int):Prop:=∃ s:Nat,s<j/\0<ln ls s/\p=(cd ls s,ln ls s)/\v=(s:Int)
def qh(w:World)(top g:Nat)(ls:List Int):Prop:=∃ (A1:OA) (n1 c1:Nat) (A2:OA) (n2 c2 m:Nat) (L:List ((Int×Int)×Int)),
 w.heap[g]?=some (.cells #[.slice A1 n1 c1,.slice A2 n2 c2,.map (some m)] 226 (0,0))/\aZ w A1 (aS ls)/\n1=ls.length/\aZ w A2 (aS (eF ls))/\n2=ls.length/\dN qN ye (Value.int .i64) w m L ∧
 (∀ p v,d8 L p=some v↔Sym ls ls.length p v)/\g<top/\m<top/\(∀ a,A1=some a->a.block<top)/\(∀ a,A2=some a->a.block<top)
theorem qh.kp{w w':World}{S:Nat->Prop}{top g:Nat}{ls:List Int}(h:qh w top g ls)(hk:Kp w w' S)(hS:∀ k,k<top->¬ S k):qh w' top g ls:=by
 obtain⟨A1,n1,c1,A2,n2,c2,m,L,h1,h2,h3,h4,h5,h6,h7,h8,h9,Nk,MI⟩:=h;exact⟨A1,n1,c1,A2,n2,c2,m,L,by rw[hk.block g (Array.getElem?_eq_some_iff.1 h1).1 (hS g h8)];exact h1,h2.kp hk (fun a ha _=>hS _ (Nk a ha)),h3,h4.kp hk (fun a ha _=>hS _ (MI a ha)),h5,h6.kp hk (hS m h9),h7,h8,h9,Nk,MI⟩
theorem nK{w:World}{base:Nat}{e:TypeId}{A:OA}{n c:Nat}{xs:List Value}(h:cP w base e A n c xs):∀ a,A=some a->a.block<w.heap.size:=by
 intro a ha;rcases h.cases.2 with⟨e,_⟩ | ⟨g,e,_,_,_,h⟩
 ·rw[e]at ha;cases ha
 ·rw[e]at ha;cases ha;exact h.lt
theorem vW {w:World} {A:OA} {n c:Nat} {ls:List Int} (hr:aZ w A (aS ls)) (hn:n=ls.length) (hb:n<=2^20) :
    Calls P 112 #[.slice A n c] w fun ev w'=>w.grownBy w' none/\((bY ls=false/\ev=.returned (.tuple #[.pointer none,.bool false])) ∨
      (bY ls=true/\∃ g,ev=.returned (.tuple #[.pointer (some ⟨g,0,none⟩),.bool true])/\qh w' w'.heap.size g ls)):=by
  apply vc112;dsimp only[VC112,rt,Br,Rd,Rs,Ix,cB,cS,nb,iq];refine(q9 hr hn hb).mono fun ev w1 hh=>?_;obtain⟨rfl,g1⟩:=hh;refine⟨_,rfl,fun hf=>⟨g1,.inl ⟨hf,rfl⟩⟩,fun ht=>?_⟩;have hR:bY ls=true:=by simpa using ht
  obtain⟨H0,Hv,_⟩:=dZ hR;refine(sH (hr.kept_none g1) hn (by omega)).mono fun ev w2 hh=>?_;obtain⟨A1,n1,c1,rfl,o1,g2⟩:=hh;refine⟨_,_,_,rfl,?_⟩;have Ic:=aA g1 g2;refine(yX (hr.kept_none Ic) hn hb).mono fun ev w3 hh=>?_;obtain⟨A2,n2,c2,rfl,o2,g3⟩:=hh;refine⟨_,_,_,rfl,?_⟩;have Gv:=aA Ic g3;have HU:n1=ls.length:=by rw[o1.cases.1];simp[aS]
  have Hp:n2=ls.length:=by rw[o2.cases.1];simp[aS,eg hR]
  have hm:=World.grownBy_alloc w3 (.map #[] 0) none;have Om:dN qN ye (Value.int .i64) (w3.alloc (.map #[] 0)) w3.heap.size ([]:List ((Int×Int)×Int)):=dN.made w3;obtain⟨w4,Il⟩:∃ w4,w4=w3.alloc (.map #[] 0):=⟨_,rfl⟩;rw[← Il]at hm Om ⊢;have Ga:w4.heap.size=w3.heap.size+1:=by rw[Il];simp
  have Hr:=World.grownBy_alloc w4 (.cells #[.slice A1 n1 c1,.slice A2 n2 c2,.map (some w3.heap.size)] 226) none;have Rt:=heap_alloc_new w4 (.cells #[.slice A1 n1 c1,.slice A2 n2 c2,.map (some w3.heap.size)] 226);have Lm:=Om.kept Hr;obtain⟨w5,LC⟩:∃ w5,w5=w4.alloc (.cells #[.slice A1 n1 c1,.slice A2 n2 c2,.map (some w3.heap.size)] 226):=⟨_,rfl⟩;rw[← LC]at Hr Rt Lm ⊢;have Ig:w5.heap.size=w4.heap.size+1:=by rw[LC];simp
  have Kg:=aA hm Hr;have NP:=(hr.kept_none Gv).kept_none Kg;have r1:=(o1.row.kept_none g3).kept_none Kg;have r2:=o2.row.kept_none Kg;have b1:∀ a,A1=some a->a.block<w3.heap.size:=fun a ha=>Nat.lt_of_lt_of_le (nK o1 a ha) g3.size;have b2:∀ a,A2=some a->a.block<w3.heap.size:=fun a ha=>nK o2 a ha;have G0:0<(eD ls).length:=List.length_pos_iff.2 (tS hR);have bA:∀ a,A=some a->a.block<w3.heap.size:=by
    intro a ha;obtain⟨b,e1,e2⟩:=(hr.kept_none Gv).blk (by intro e;have:ls=[]:=(by simpa[aS]using e);rw[this]at G0;simp[eD,jp,dk]at G0);rw[ha]at e1;cases e1;exact e2
  simp only[aF];refine⟨fun q i w6=>∃ (j:Nat) (L:List ((Int×Int)×Int)),i=(j:Int)/\j<=ls.length/\q=ls.length-j/\dN qN ye (Value.int .i64) w6 w3.heap.size L/\(∀ p v,d8 L p=some v↔Sym ls j p v)/\w5.grownBy w6 (some w3.heap.size),
    ⟨_,0,[],rfl,by omega,rfl,Lm,by intro p v;simp[d8,Sym],aC _ _⟩,?_⟩
  rintro q i w6 ⟨j,L,rfl,hj,rfl,hL,GH,Ho⟩;have tj:(j:Int).toNat=j:=by omega
  rw[tj];have Rr:w6.heap[w4.heap.size]?=some (.cells #[.slice A1 n1 c1,.slice A2 n2 c2,.map (some w3.heap.size)] 226 (0,0)):=by
    rw[Ho.block w4.heap.size (Array.getElem?_eq_some_iff.1 Rt).1 (by simp;omega)];exact Rt
  refine⟨fun FE=>?_,fun FJ=>?_⟩
  · have l1:j<ls.length:=by omega
    obtain⟨a,FU,FP⟩:=(NP.kept Ho (fun a ha=>by have:=bA a ha;simp;omega)) j (.int .i64 ls[j]) (by simp[aS,l1]);have IQ:ls[j]=ln ls j:=(kh l1).symm;rw[IQ]at FP;refine⟨a,FU,by omega,by omega,_,FP,fun hp=>?_,fun hp=>⟨by omega,ls.length-(j+1),by omega,j+1,L,by omega,by omega,rfl,hL,?_,Ho⟩⟩
    · have Tb:w6.drew.heap[w4.heap.size]?=some (.cells #[.slice A1 n1 c1,.slice A2 n2 c2,.map (some w3.heap.size)] 226 (0,0)):=Rr;have Hk:=eg hR;have r26:aZ w6.drew A2 (aS (eF ls)):=r2.kept (aH Ho) (fun a ha=>by have:=b2 a ha;simp;omega);obtain⟨b,Hc,FX⟩:=r26 j (.int .i64 (cd ls j)) (by simp[aS,cd,Hk,l1,List.getD_eq_getElem?_getD]);have Xw:=y0 hR ⟨l1,by omega⟩;have Gz:=kY hR j;have NM:=Hv j;have LU:(2:Int)^(ln ls j).toNat<=2^15:=by
        have e1:((2^(ln ls j).toNat:Nat):Int)=2^(ln ls j).toNat:=by simp
        have:=Nat.pow_le_pow_right (n:=2) (by omega) (show(ln ls j).toNat<=15 by omega);omega
      have WB:dN qN ye (Value.int .i64) w6.drew w3.heap.size L:=hL;obtain⟨w7,e1,e2,e3⟩:=WB.update (mt:=224) (et:=3) keyT (by kernel_rfl) (k:=(cd ls j,ln ls j)) ⟨⟨by show _<=cd ls j;omega,by show cd ls j<=_;omega⟩,⟨by show _<=ln ls j;omega,by show ln ls j<=_;omega⟩⟩ (j:Int);refine⟨_,rfl,_,by rw[aP];exact aB Tb 2,_,rfl,_,_,_,by rw[aP];exact aB Tb 1,b,Hc,by omega,by omega,_,FX,w7,e1,by omega,ls.length-(j+1),by omega,j+1,jc L (cd ls j,ln ls j) (j:Int),by omega,by omega,rfl,e2,?_,aA (aH Ho) e3⟩;intro p v;rw[uu];by_cases e:(cd ls j,ln ls j)=p
      · rw[if_pos e];constructor
        · intro h;cases h;exact⟨j,by omega,by omega,e.symm,rfl⟩
        · rintro⟨s,s1,s2,s3,rfl⟩;rw[s3]at e;simp only[Prod.mk.injEq]at e;have:=DF hR ⟨l1,by omega⟩ ⟨show s<ls.length by omega,s2⟩ e.2 e.1;rw[this]
      · rw[if_neg e,GH];constructor
        · rintro⟨s,s1,r⟩;exact⟨s,by omega,r⟩
        · rintro⟨s,s1,s2,s3,s4⟩;refine⟨s,?_,s2,s3,s4⟩;by_cases h:s=j
          · subst h;exact absurd s3.symm e
          · omega
    · intro p v;rw[GH];constructor
      · rintro⟨s,s1,r⟩;exact⟨s,by omega,r⟩
      · rintro⟨s,s1,s2,s3,s4⟩;refine⟨s,?_,s2,s3,s4⟩;by_cases h:s=j
        · subst h;omega
        · omega
  · have GL:j=ls.length:=by omega
    subst GL;refine⟨aN (aA Gv Kg) Ho (by intro k hk;cases hk;exact Gv.size),.inr ⟨hR,w4.heap.size,rfl,A1,n1,c1,A2,n2,c2,w3.heap.size,L,Rr,?_,HU,?_,Hp,hL,GH,?_,hL.lt,?_,?_⟩⟩
    · exact r1.kept Ho (fun a ha=>by have:=b1 a ha;simp;omega)
    · exact r2.kept Ho (fun a ha=>by have:=b2 a ha;simp;omega)
    · exact(Array.getElem?_eq_some_iff.1 Rr).1
    · intro a ha;have:=b1 a ha;have:=Ho.size;omega
    · intro a ha;have:=b2 a ha;have:=Ho.size;omega
theorem AB{ls:List Int}(h:bY ls=true){s:Nat}(hs:s<ls.length)(h0:ln ls s≠0):0<ln ls s/\ln ls s<=15/\0<=cd ls s/\cd ls s<=32767:=by
 obtain⟨_,Hv,_⟩:=dZ h;have hb:=Hv s;have hc:=y0 h ⟨hs,by omega⟩;have LU:(2:Int)^(ln ls s).toNat<=2^15:=by
  have e1:((2^(ln ls s).toNat:Nat):Int)=2^(ln ls s).toNat:=by simp
  have:=Nat.pow_le_pow_right (n:=2) (by omega) (show(ln ls s).toNat<=15 by omega);omega
 exact⟨by omega,hb.2,kY h s,by omega⟩
theorem BM{ls:List Int}{s:Int}(h:ii ls s=false)(bits:List Bool):bits++kc ls s=bits:=by simp[kc,h]
theorem wF{w:World}{top base g gw:Nat}{ls:List Int}{bits:List Bool}{s:Int}(hT:qh w top g ls)(hR:bY ls=true)(hW:Wr w base gw bits)(hl:bits.length<=2^30)(FL:base<=w.heap.size):
    Calls P 113 #[.pointer (some ⟨g,0,none⟩),.pointer (some ⟨gw,0,none⟩),.int .i64 s] w fun ev w'=>ev=.returned (.bool (ii ls s))/\Wr w' base gw (bits++kc ls s)/\Kp w w' (u4 w base [214,5]):=by
  obtain⟨A1,n1,c1,A2,n2,c2,m,L,hb,r1,HU,r2,Hp,_⟩:=hT;apply vc113;dsimp only[VC113,rb,Br,Rd,Rs,Ix,cU,iq];have c0:w.cell? ⟨g,0,none⟩=some (.slice A1 n1 c1):=aB hb 0;have Ge:w.drew.heap[g]?=some (.cells #[.slice A1 n1 c1,.slice A2 n2 c2,.map (some m)] 226 (0,0)):=hb;have no:ii ls s=false->Wr w base gw (bits++kc ls s)/\Kp w w (u4 w base [214,5]):=fun h=>by
    rw[BM h];exact⟨hW,Kp.refl _ _⟩
  refine⟨fun h=>(by cases h),fun _=>⟨fun h=>?_,fun h0=>⟨_,rfl,_,_,_,c0,fun h=>?_,fun h1=>⟨_,rfl,_,_,_,c0,?_⟩⟩⟩⟩
  · have:ii ls s=false:=by simp[ii];omega
    rw[this];exact⟨rfl,by simpa[this]using no this⟩
  · have:ii ls s=false:=by simp[ii];omega
    rw[this];exact⟨rfl,by simpa[this]using no this⟩
  · obtain⟨k,rfl⟩:∃ k:Nat,s=k:=⟨s.toNat,by omega⟩;have tk:(k:Int).toNat=k:=by omega
    have lk:k<ls.length:=by omega
    obtain⟨a,FU,FP⟩:=r1 k (.int .i64 ls[k]) (by simp[aS,lk]);rw[show ls[k]=ln ls k from(kh lk).symm]at FP;rw[tk];refine⟨a,FU,by omega,by omega,_,FP,fun hz=>?_,fun hz=>?_⟩
    · have:ii ls (k:Int)=false:=by simp[ii,hz]
      rw[this];exact⟨rfl,by simpa[this]using no this⟩
    · have hv:ii ls (k:Int)=true:=by simp[ii,lk,hz]
      obtain⟨b1,b2,b3,b4⟩:=AB hR lk hz;have Hk:=eg hR;obtain⟨b,Hc,FX⟩:=r2 k (.int .i64 (cd ls k)) (by simp[aS,cd,Hk,lk,List.getD_eq_getElem?_getD]);refine⟨_,rfl,_,_,_,by rw[aP];exact aB Ge 1,b,Hc,by omega,by omega,_,FX,⟨by omega,by omega⟩,_,rfl,_,_,_,c0,a,FU,by omega,by omega,_,FP,?_⟩;obtain⟨q,hq⟩:∃ q:Nat,ln ls k=(q:Int):=⟨(ln ls k).toNat,by omega⟩;rw[hq];have Wh:Wr w.drew base gw bits:=hW.kept (aH (aC w none));refine(nJ Wh (v:=cd ls k) (n:=q) (by omega) (by omega) hl FL).mono fun ev w2 hh=>?_;obtain⟨rfl,h2,h3⟩:=hh;refine⟨rfl,by rw[hv],?_,⟨h3.os,h3.tape,h3.output,h3.size,h3.block⟩⟩;have:kc ls (k:Int)=cF (cd ls k) q:=by simp[kc,hv,hq]
      rw[this];exact h2
theorem Fp{v b:Int}(h0:0<=v/\v<=100000)(hb:0<=b/\b<=1):dE .or .i64 (v*2^1) b=2*v+b:=by
 obtain⟨n,rfl⟩:∃ n:Nat,v=n:=⟨v.toNat,by omega⟩;obtain⟨m,rfl⟩:∃ n:Nat,b=n:=⟨b.toNat,by omega⟩;have em:(n:Int)*2^1=((n*2^1:Nat):Int):=by simp
 rw[em];have e1:(BitVec.ofInt 64 ((n*2^1:Nat):Int)).toNat=n*2^1:=dj (by omega);have e2:(BitVec.ofInt 64 (m:Int)).toNat=m:=dj (by omega);show IntKind.i64.wrap (((BitVec.ofInt 64 ((n*2^1:Nat):Int) ||| BitVec.ofInt 64 (m:Int)).toNat:Nat):Int)=_;rw[BitVec.toNat_or,e1,e2,Nat.or_comm,wP (by omega)];have hz:aF .i64 (((m+n*2^1:Nat)):Int):=by
  show(-9223372036854775808:Int)<=_/\_<=(9223372036854775807:Int);omega
 rw[eW hz];omega
theorem nP{l:List Int}{at_:Nat}(h:at_+1<=8*l.length):(aM l).drop at_=dD l at_ ::(aM l).drop (at_+1):=by
 have hl:=cQ l;rw[List.drop_eq_getElem_cons (by omega)];congr 1;simp[aM]
theorem kq{l:List Int}{at_:Nat}(h:at_+1<=8*l.length):ij (((aM l).drop at_).take 1)=eS (dD l at_):=by
 rw[nP h];simp[ij]
def fk(ls:List Int)(l:List Int)(at_:Nat):Value×Nat:=match fS ls 15 0 0 ((aM l).drop at_)with
 | some (s,k)=>(.tuple #[.int .i64 (s:Int),.bool true],at_+k)
 | none=>(.tuple #[.int .i64 0,.bool false],at_)
theorem uy{ls:List Int}{n:Nat}{v:Int}:fo ls n v=none↔∀ s,s<ls.length->¬ (ln ls s=(n:Int)/\cd ls s=v):=by
 rw[fo,List.find?_eq_none];simp
theorem tg {w:World} {g:Nat} {A:OA} {n c:Nat} {l:List Int} {at_:Nat} {B D:OA} {m d m' d':Nat} {ls:List Int} (h:eU w g A n c l at_) (hl:l.length<=2^40) (hb:∀ x∈l,0<=x/\x<=255)
    (hB:aZ w B (aS ls)) (hm:m=ls.length) (hD:aZ w D (aS (eF ls))) (Oq:m'=ls.length) (hR:bY ls=true) (nB:∀ a,B=some a->a.block≠g) (nD:∀ a,D=some a->a.block≠g) :
    Calls P 92 #[.pointer (some ⟨g,0,none⟩),.slice B m d,.slice D m' d'] w fun ev w'=>ev=.returned (fk ls l at_).1/\eU w' g A n c l (fk ls l at_).2/\Kp w w' (fun k=>k=g):=by
  apply vc92;dsimp only[VC92,rt,Wt,Br,Rd,Ix,iq]
  try simp only[aF]
  have H0:=(dZ hR).1;have Hk:=eg hR;refine⟨_,rfl,_,by rw[aP];exact aB h.blk 1,?_⟩
  -- back to where it was
  have back:∀(w2:World)(j:Nat),eU w2 g A n c l (at_+j)->Kp w w2 (fun k=>k=g)->fS ls 15 0 0 ((aM l).drop at_)=none->∃ a57:Addr,(some ⟨g,0,none⟩:OA)=some a57/\(∃ u:Value,w2.cell? (a57.add 1)=some u)/\w2.frozen? (a57.add 1)=false/\(Ending.returned (.tuple #[.int .i64 0,.bool false])=.returned (fk ls l at_).1/\eU (w2.setCell (a57.add 1) (.int .i64 (at_:Int))) g A n c l (fk ls l at_).2/\Kp w (w2.setCell (a57.add 1) (.int .i64 (at_:Int))) (fun k=>k=g)):=by
    intro w2 j h2 hk ht;refine⟨_,rfl,⟨_,by rw[aP];exact aB h2.blk 1⟩,by rw[aP];exact aD h2.blk 1,?_,?_,hk.set (.inr (aK _ _)) _⟩
    · simp[fk,ht]
    · have hs:=aG h2.blk 1 (.int .i64 (at_:Int));rw[aP];refine⟨by simpa[fk,ht]using hs,?_,h2.len,by simp only[fk,ht];exact h.le,h2.ne⟩;exact h2.row.kpE (S:=fun q=>q=g) ((Kp.refl w2 (fun q=>q=g)).set (.inr rfl) _) (fun a ha=>(h2.ne a ha).imp (fun e=>by rw[e];rfl) id)
  refine⟨fun q v n' w1=>∃ j:Nat,n'=((j+1:Nat):Int)/\j<=15/\q=15-j/\0<=v/\v<2^j/\at_+j<=8*l.length/\fS ls 15 0 0 ((aM l).drop at_)=fS ls (15-j) j v ((aM l).drop (at_+j))/\eU w1 g A n c l (at_+j)/\Kp w w1 (fun k=>k=g),
    ⟨_,0,rfl,by omega,rfl,by omega,by simp,h.le,rfl,h,Kp.refl _ _⟩,?_⟩
  rintro q v n' w1 ⟨j,rfl,hj,rfl,Jz,Io,FW,FM,Hm,G7⟩;have LU:(2:Int)^j<=2^15:=by
    have e1:((2^j:Nat):Int)=2^j:=by simp
    have:=Nat.pow_le_pow_right (n:=2) (by omega) hj;omega
  refine⟨fun FE=>?_,fun FJ=>?_⟩
  · obtain⟨r,hr⟩:∃ r,15-j=r+1:=⟨15-j-1,by omega⟩;rw[hr]at FM;refine(j5 (k:=1) Hm hl hb (by omega)).mono fun ev w2 hh=>?_;obtain⟨k2,hh | hh⟩:=hh
    · obtain⟨Gy,rfl,HF⟩:=hh;refine⟨_,_,rfl,fun h=>(by cases h),fun _=>?_⟩;rw[kq Gy];have HY:=ff (dD l (at_+j));refine⟨by omega,by omega,by omega,?_⟩;have Iy:=G7.trans k2;have NH:∀ w3:World,Kp w2 w3 (fun k=>k=g)->aZ w3 B (aS ls)/\aZ w3 D (aS (eF ls)):=fun w3 h3=>⟨hB.kp (Iy.trans h3) (fun a ha _=>nB a ha),hD.kp (Iy.trans h3) (fun a ha _=>nD a ha)⟩;obtain⟨rB,rD⟩:=NH w2 (Kp.refl _ _);rw[nP Gy]at FM;have LH:fS ls (r+1) j v (dD l (at_+j) ::(aM l).drop (at_+j+1))=match fo ls (j+1) (2*v+eS (dD l (at_+j)))with
        | some s=>some (s,j+1)
        | none=>fS ls r (j+1) (2*v+eS (dD l (at_+j))) ((aM l).drop (at_+j+1)):=rfl
      rw[LH]at FM;refine⟨fun q s w3=>∃ t:Nat,s=(t:Int)/\t<=ls.length/\q=ls.length-t/\(∀ u,u<t->¬ (ln ls u=((j+1:Nat):Int)/\cd ls u=2*v+eS (dD l (at_+j))))/\w3=w2,⟨_,0,rfl,by omega,rfl,by intro u hu;omega,rfl⟩,?_⟩;rintro q s w3 ⟨t,rfl,ht,rfl,GK,rfl⟩;have tt:(t:Int).toNat=t:=by omega
      rw[tt];refine⟨fun Gn=>?_,fun HV=>?_⟩
      · have lt:t<ls.length:=by omega
        obtain⟨a,FU,FP⟩:=rB t (.int .i64 ls[t]) (by simp[aS,lt]);rw[show ls[t]=ln ls t from(kh lt).symm]at FP;obtain⟨b,Hc,FX⟩:=rD t (.int .i64 (cd ls t)) (by simp[aS,cd,Hk,lt,List.getD_eq_getElem?_getD]);have next:¬ (ln ls t=((j+1:Nat):Int)/\cd ls t=2*v+eS (dD l (at_+j)))->∃ t':Nat,(t:Int)+1=(t':Int)/\t'<=ls.length/\ls.length-(t+1)=ls.length-t'/\(∀ u,u<t'->¬ (ln ls u=((j+1:Nat):Int)/\cd ls u=2*v+eS (dD l (at_+j))))/\w3=w3:=by
          intro hn;refine⟨t+1,by omega,by omega,rfl,fun u hu=>?_,rfl⟩;by_cases e:u=t
          · subst e;exact hn
          · exact GK u (by omega)
        refine⟨a,FU,by omega,by omega,_,FP,fun he=>⟨b,Hc,by omega,by omega,_,FX,fun hc=>?_,fun hc=>⟨by omega,ls.length-(t+1),by omega,next (fun e=>hc e.2)⟩⟩,fun he=>⟨by omega,ls.length-(t+1),by omega,next (fun e=>he e.1)⟩⟩;have hf:fo ls (j+1) (2*v+eS (dD l (at_+j)))=some t:=(iA hR (by omega)).2 ⟨lt,he,hc⟩;rw[hf]at FM;have hT:fk ls l at_=(.tuple #[.int .i64 (t:Int),.bool true],at_+(j+1)):=by simp[fk,FM]
        rw[hT];exact⟨rfl,HF,Iy⟩
      · have LL:t=ls.length:=by omega
        subst LL;have hf:=uy.2 GK;rw[hf]at FM;have Kk:2*v+eS (dD l (at_+j))<2^(j+1):=by rw[pow_succ'];omega
        refine⟨by omega,15-(j+1),by omega,j+1,by omega,by omega,rfl,by omega,Kk,Gy,?_,HF,Iy⟩;rw[FM,show 15-(j+1)=r by omega];rfl
    · obtain⟨GK,rfl,HF⟩:=hh;refine⟨_,_,rfl,fun _=>?_,fun h=>absurd rfl h⟩;refine back w2 j HF (G7.trans k2) ?_;rw[FM];have:(aM l).drop (at_+j)=[]:=List.drop_eq_nil_of_le (by rw[cQ];omega);rw[this];rfl
  · have GL:j=15:=by omega
    subst GL;refine back w1 15 Hm G7 ?_;rw[FM];rfl
theorem CJ(w:World):Sem.run P (zeroValue 3) w=.ok (.int .i64 0) w:=by
 obtain⟨i,h1,h2,h3,h4,h5,h6⟩:=iD.ex;simp[zeroValue,typeInfo,program,Sem.run,h2,h3]
theorem lay2{w:World}{g:Nat}{x y u v:Value}{t:TypeId}(h:w.heap[g]?=some (.cells #[x,y] t (0,0))):
    (∃ z,w.cell? ⟨g,0,none⟩=some z)/\w.frozen? ⟨g,0,none⟩=false/\(∃ z,(w.setCell ⟨g,0,none⟩ u).cell? ⟨g,1,none⟩=some z)/\(w.setCell ⟨g,0,none⟩ u).frozen? ⟨g,1,none⟩=false ∧
    ((w.setCell ⟨g,0,none⟩ u).setCell ⟨g,1,none⟩ v).heap[g]?=some (.cells #[u,v] t (0,0)):=by
  have h1:=aG h 0 u;have h2:=aG h1 1 v;exact⟨⟨x,aB h 0⟩,aD h 0,⟨y,aB h1 1⟩,aD h1 1,h2⟩
theorem BT{ls:List Int}(hR:bY ls=true){L:List ((Int×Int)×Int)}(GH:∀ p v,d8 L p=some v↔Sym ls ls.length p v){n:Nat}(hn:0<n)(v:Int):d8 L (v,(n:Int))=(fo ls n v).map fun s:Nat=>(s:Int):=by
 cases e:fo ls n v with
 | some s =>
  obtain⟨h1,h2,h3⟩:=(iA hR hn).1 e;exact(GH _ _).2 ⟨s,h1,by omega,by rw[h2,h3],rfl⟩
 | none =>
  cases e2:d8 L (v,(n:Int))with
  | none=>rfl
  | some u =>
   obtain⟨s,h1,h2,h3,h4⟩:=(GH _ _).1 e2;simp only[Prod.mk.injEq]at h3;have:=(iA hR hn).2 ⟨h1,h3.2.symm,h3.1.symm⟩;rw[e]at this;cases this
theorem u7 {w:World} {top gt g:Nat} {A:OA} {n c:Nat} {l:List Int} {at_:Nat} {ls:List Int} (hT:qh w top gt ls) (Uo:top<=g) (h:jn w g A n c l at_) (hl:l.length<=2^40) (hb:∀ x∈l,0<=x/\x<=255) (hR:bY ls=true) :
    Calls P 163 #[.pointer (some ⟨gt,0,none⟩),.pointer (some ⟨g,0,none⟩)] w fun ev w'=>ev=.returned (fk ls l at_).1/\jn w' g A n c l (fk ls l at_).2/\Kp w w' (fun k=>k=g):=by
  apply vc163;dsimp only[VC163,rt,Wt,Br,Bb,Rd,Rs,Ws,nb,iq]
  try simp only[aF]
  have Me:g<w.heap.size:=(Array.getElem?_eq_some_iff.1 h.blk).1;have JT:=heap_alloc_new w (.cells #[.slice none 0 0,.int .i64 0] 240);obtain⟨k1,k2,k3,k4,k5⟩:=lay2 (u:=.slice A n c) (v:=.int .i64 (at_:Int)) JT;refine⟨fun h=>(by simp at h),fun _=>⟨_,rfl,_,_,_,aB h.blk 0,_,by rw[aP];exact aB h.blk 1,k1,k2,k3,k4,?_⟩⟩;have Jo:Kp w (((w.alloc (.cells #[.slice none 0 0,.int .i64 0] 240)).setCell ⟨w.heap.size,0,none⟩ (.slice A n c)).setCell ⟨w.heap.size,1,none⟩ (.int .i64 (at_:Int))) (fun k=>k=g) :=
    (((Kp.refl w (fun k=>k=g)).alloc _).set (.inl (Nat.le_refl _)) _).set (.inl (Nat.le_refl _)) _
  obtain⟨w0,IL⟩:∃ w0,w0=((w.alloc (.cells #[.slice none 0 0,.int .i64 0] 240)).setCell ⟨w.heap.size,0,none⟩ (.slice A n c)).setCell ⟨w.heap.size,1,none⟩ (.int .i64 (at_:Int)):=⟨_,rfl⟩;rw[← IL]at k5 Jo ⊢;have Ql:jn w0 g A n c l at_:=by
    have L7:Kp w w0 (fun _=>False):=by
      rw[IL];exact(((Kp.refl w (fun _=>False)).alloc _).set (.inl (Nat.le_refl _)) _).set (.inl (Nat.le_refl _)) _
    exact h.kp L7 (fun h=>h) (fun _ _=>.inr (fun h=>h))
  have F8:∀ {α:Prop},α->α:=fun h=>h
  -- what is kept of the copy and of the table
  have keep:∀ w1,Kp w0 w1 (fun k=>k=g)->w1.heap[w.heap.size]?=some (.cells #[.slice A n c,.int .i64 (at_:Int)] 240 (0,0)):=by
    intro w1 h1;rw[h1.block w.heap.size (Array.getElem?_eq_some_iff.1 k5).1 (by omega)];exact k5
  have tab:∀ w1,Kp w w1 (fun k=>k=g)->qh w1 top gt ls:=fun w1 h1=>hT.kp h1 (fun k hk e=>by omega)
  have back:∀(w2:World)(j:Nat),jn w2 g A n c l (at_+j)->Kp w0 w2 (fun k=>k=g)->fS ls 15 0 0 ((aM l).drop at_)=none->∃(x49A:OA)(x49n x49c:Nat),w2.cell? ⟨w.heap.size,0,none⟩=some (.slice x49A x49n x49c)/\(∃ x49:Int,w2.cell? ⟨w.heap.size,1,none⟩=some (.int .i64 x49)/\(∃ a50:Addr,(some ⟨g,0,none⟩:OA)=some a50/\((∃ u:Value,w2.cell? a50=some u)/\w2.frozen? a50=false/\((∃ u:Value,(w2.setCell a50 (.slice x49A x49n x49c)).cell? (a50.add 1)=some u)/\(w2.setCell a50 (.slice x49A x49n x49c)).frozen? (a50.add 1)=false ∧
      (Ending.returned (.tuple #[.int .i64 0,.bool false])=.returned (fk ls l at_).1/\jn ((w2.setCell a50 (.slice x49A x49n x49c)).setCell (a50.add 1) (.int .i64 x49)) g A n c l (fk ls l at_).2/\Kp w ((w2.setCell a50 (.slice x49A x49n x49c)).setCell (a50.add 1) (.int .i64 x49)) (fun k=>k=g)))))):=by
    intro w2 j h2 hk ht;have Td:=keep w2 hk;obtain⟨q1,q2,q3,q4,q5⟩:=lay2 (u:=.slice A n c) (v:=.int .i64 (at_:Int)) h2.blk;refine⟨_,_,_,aB Td 0,_,aB Td 1,_,rfl,q1,q2,?_⟩;rw[aP];refine⟨q3,q4,?_,?_,((Jo.trans hk).set (.inr rfl) _).set (.inr rfl) _⟩
    · simp[fk,ht]
    · refine⟨by simpa[fk,ht]using q5,?_,h2.len,by simp only[fk,ht];exact h.le,h2.ne⟩;exact h2.row.kpE (S:=fun q=>q=g) (((Kp.refl w2 (fun q=>q=g)).set (.inr rfl) _).set (.inr rfl) _) (fun a ha=>(h2.ne a ha).imp (fun e=>by rw[e];rfl) id)
  refine⟨fun q v n' w1=>∃ j:Nat,n'=(j:Int)/\j<=15/\q=15-j/\0<=v/\v<2^j/\at_+j<=8*l.length/\fS ls 15 0 0 ((aM l).drop at_)=fS ls (15-j) j v ((aM l).drop (at_+j))/\jn w1 g A n c l (at_+j)/\Kp w0 w1 (fun k=>k=g),
    ⟨_,0,rfl,by omega,rfl,by omega,by simp,h.le,rfl,Ql,Kp.refl _ _⟩,?_⟩
  rintro q v n' w1 ⟨j,rfl,hj,rfl,Jz,Io,FW,FM,Hm,G7⟩;have LU:(2:Int)^j<=2^15:=by
    have e1:((2^j:Nat):Int)=2^j:=by simp
    have:=Nat.pow_le_pow_right (n:=2) (by omega) hj;omega
  refine⟨fun FE=>?_,fun FJ=>?_⟩
  · obtain⟨r,hr⟩:∃ r,15-j=r+1:=⟨15-j-1,by omega⟩;rw[hr]at FM;refine(lr (k:=1) Hm hl hb (by omega)).mono fun ev w2 hh=>?_;obtain⟨k2,hh | hh⟩:=hh
    · obtain⟨Gy,rfl,HF⟩:=hh;refine⟨_,_,rfl,fun h=>(by cases h),fun _=>?_⟩;rw[kq Gy];have HY:=ff (dD l (at_+j));rw[Fp ⟨Jz,by omega⟩ HY];have Iy:=G7.trans k2;rw[nP Gy]at FM;have LH:fS ls (r+1) j v (dD l (at_+j) ::(aM l).drop (at_+j+1))=match fo ls (j+1) (2*v+eS (dD l (at_+j)))with
        | some s=>some (s,j+1)
        | none=>fS ls r (j+1) (2*v+eS (dD l (at_+j))) ((aM l).drop (at_+j+1)):=rfl
      rw[LH]at FM;obtain⟨A1,n1,c1,A2,n2,c2,m,L,Th,_,_,_,_,hL,GH,_⟩:=tab w2 (Jo.trans Iy);have Ou:=hL.look (mt:=224) (et:=3) keyT (by kernel_rfl) (CJ w2) (k:=(2*v+eS (dD l (at_+j)),(j:Int)+1)) ⟨⟨by show _<=2*v+_;omega,by show 2*v+_<=_;omega⟩,⟨by show _<=(j:Int)+1;omega,by show(j:Int)+1<=_;omega⟩⟩ true;have SP:=BT hR GH (n:=j+1) (by omega) (2*v+eS (dD l (at_+j)));rw[show((j+1:Nat):Int)=(j:Int)+1 by omega]at SP;rw[SP]at Ou;refine⟨⟨by omega,by omega,by omega⟩,by omega,_,rfl,_,by rw[aP];exact aB Th 2,by omega,?_⟩;cases hf:fo ls (j+1) (2*v+eS (dD l (at_+j)))with
      | some t =>
        rw[hf]at Ou FM;refine⟨(t:Int),true,Ou,fun _=>?_,fun h=>(by cases h)⟩;have Wn:fk ls l at_=(.tuple #[.int .i64 (t:Int),.bool true],at_+(j+1)):=by simp[fk,FM]
        rw[Wn];exact⟨rfl,HF,Jo.trans Iy⟩
      | none =>
        rw[hf]at Ou FM;refine⟨0,false,Ou,fun h=>(by cases h),fun _=>?_⟩;have Kk:2*v+eS (dD l (at_+j))<2^(j+1):=by rw[pow_succ'];omega
        refine⟨by omega,15-(j+1),by omega,j+1,by omega,by omega,rfl,by omega,Kk,Gy,?_,HF,Iy⟩;rw[FM,show 15-(j+1)=r by omega];rfl
    · obtain⟨GK,rfl,HF⟩:=hh;refine⟨_,_,rfl,fun _=>?_,fun h=>absurd rfl h⟩;refine back w2 j HF (G7.trans k2) ?_;rw[FM];have:(aM l).drop (at_+j)=[]:=List.drop_eq_nil_of_le (by rw[cQ];omega);rw[this];rfl
  · have GL:j=15:=by omega
    subst GL;refine back w1 15 Hm G7 ?_;rw[FM];rfl
end Go.Proofs.YtlieaecnllkefaaGreat

/- Own texts, packed: F1, F2, F3, F4, F5, F6. -/
import Derived.Test.YtlieaecnllkefaaGreatGBg
import Derived.Test.YtlieaecnllkefaaGreatGFg
import Derived.Test.YtlieaecnllkefaaGreatGXg
import Derived.Test.YtlieaecnllkefaaGreatGEg
import Derived.Test.YtlieaecnllkefaaGreatGCg
import Derived.Test.YtlieaecnllkefaaGreatGGg
set_option linter.unusedVariables false
set_option linter.unusedSimpArgs false
set_option maxHeartbeats 4000000
set_option maxRecDepth 100000
namespace Go.Proofs.YtlieaecnllkefaaGreat
open Go Go.V Go.RowKit
theorem yR{w:World}{A:OA}{n c:Nat}{xs:List Int}{v:Int}(hr:aY w A (aT xs))(hn:n=xs.length)(hb:n<=2^40):
    Calls P 189 #[.slice A n c,.int .i64 v] w fun ev w'=>∃ i:Int,ev=.returned (.int .i64 i)/\(0<=i↔v∈xs)/\w.grownBy w' none:=by
  apply vc189;dsimp only[VC189,Br,Rd,Ix,iq]
  try simp only[aG]
  refine⟨fun m i w'=>∃ j:Nat,i=(j:Int)/\j<=xs.length/\m=xs.length-j/\v ∉ xs.take j/\w.grownBy w' none,⟨_,0,rfl,by omega,rfl,by simp,aC _ _⟩,?_⟩;rintro m i w' ⟨j,rfl,hj,rfl,hv,hg⟩;refine⟨fun Ge=>?_,fun Gj=>?_⟩
  · have l1:j<xs.length:=by omega
    obtain⟨a,Gy,Gv⟩:=(hr.kept_none hg) j (.int .i64 xs[j]) (by simp[aT,l1]);refine⟨a,Gy,by omega,by omega,_,Gv,fun he=>⟨_,rfl,?_,hg⟩,fun Gh=>⟨by omega,xs.length-(j+1),by omega,j+1,by omega,by omega,rfl,?_,hg⟩⟩
    · rw[he];exact⟨fun _=>List.getElem_mem l1,fun _=>by omega⟩
    · rw[List.take_succ_eq_append_getElem l1];simp only[List.mem_append,List.mem_singleton,not_or];exact⟨hv,Gh⟩
  · have:j=xs.length:=by omega
    subst this;rw[List.take_length]at hv;exact⟨_,rfl,⟨fun h=>by omega,fun h=>absurd h hv⟩,hg⟩
theorem uV{w:World}{A:OA}{n c:Nat}{xs:List Int}{v:Int}(hr:aY w A (aT xs))(hn:n=xs.length)(hb:n<=2^40):
    Calls P 180 #[.slice A n c,.int .i64 v] w fun ev w'=>ev=.returned (.bool (xs.contains v))/\w.grownBy w' none:=by
  apply vc180;dsimp only[VC180,cI,iq];refine(yR hr hn hb).mono fun ev w' hh=>?_;obtain⟨i,rfl,hi,hg⟩:=hh;refine⟨i,rfl,?_,hg⟩;congr 2;rw[Bool.eq_iff_iff,decide_eq_true_iff,List.contains_iff_mem];exact hi
theorem sR{w:World}{A:OA}{n c:Nat}{l:List Int}(hr:aY w A (aT l))(hn:n=l.length)(hl:l.length<=2^40):
    Calls P 156 #[.slice A n c] w fun ev w'=>∃(A':OA)(n' c':Nat),ev=.returned (.slice A' n' c')/\cR w' w.heap.size 3 A' n' c' (aT l)/\w.grownBy w' none:=by
  apply vc156;dsimp only[VC156,Br,Ap,nb];refine⟨fun h=>?_,fun h=>?_⟩
  · subst h;have:l=[]:=by
      cases l with
      | nil=>rfl
      | cons x l=>obtain⟨a,e,_⟩:=hr 0 _ rfl;cases e
    subst this;exact⟨none,0,0,rfl,World.ownsRow_nil _ _ _ _,aC _ _⟩
  · obtain⟨a,rfl⟩:∃ a,A=some a:=by cases A with
      | none=>exact absurd rfl h
      | some a=>exact⟨a,rfl⟩
    have hg:=World.grownBy_alloc w (.cells #[] 3) none;have ho:cR (w.alloc (.cells #[] 3)) w.heap.size 3 (some ⟨w.heap.size,0,none⟩) 0 0 []:=⟨rfl,.inr ⟨w.heap.size,0,#[],rfl,Nat.le_refl _,heap_alloc_new w _,Nat.le_refl _,Nat.zero_le _,rfl,rfl⟩⟩;obtain⟨A',n',c',w',h1,h2,h4⟩:=ho.appends (ty:=33) ja (by omega) (a:=a) (m:=n) (cc:=c) (us:=aT l) (by simp[hn]) (fun j u hj=>by obtain⟨b,e1,e2⟩:=(hr.kept_none hg) j u hj;cases e1;exact e2) (fun u hu=>by obtain⟨x,_,rfl⟩:=List.mem_map.1 hu;rfl) (by omega) hg.size;exact⟨A',n',c',w',h1,A',n',c',rfl,by simpa using h2,aN hg h4 ho.block_ge⟩
theorem rv {w:World} {A:OA} {n c:Nat} {ls:List Int} (hr:aY w A (aT ls)) (hn:n=ls.length) (hb:n<=2^20) :
    Calls P 155 #[.slice A n c] w fun ev w'=>ev=.returned (.bool (cF ls))/\w.grownBy w' none:=by
  apply vc155;dsimp only[VC155,rb,Br,Bb,Rd,Ix,cI,cB,iq]
  try simp only[aG]
  refine⟨fun m s i w'=>∃ j:Nat,i=(j:Int)/\j<=ls.length/\m=ls.length-j/\(∀ x∈ls.take j,0<=x/\x<=15)/\s=(de (ls.take j):Int)/\w.grownBy w' none,⟨_,0,rfl,by omega,rfl,by simp,by simp[de],aC _ _⟩,?_⟩;rintro m s i w' ⟨j,rfl,hj,rfl,Gq,rfl,hg⟩;have J8:=ki (ls.take j);have Jt:(ls.take j).length=j:=by simp;omega
  refine⟨fun Ge=>?_,fun Gj=>?_⟩
  · have l1:j<ls.length:=by omega
    obtain⟨a,Gy,Gv⟩:=(hr.kept_none hg) j (.int .i64 ls[j]) (by simp[aT,l1]);refine⟨a,Gy,by omega,by omega,_,Gv,fun h=>⟨by rw[lI (List.getElem_mem l1) (.inl h)],hg⟩,fun h=>⟨fun h'=>⟨by rw[lI (List.getElem_mem l1) (.inr (by omega))],hg⟩,fun h'=>?_⟩⟩;have Nq:mn ls[j] 1=if 0<ls[j] then 1 else 0:=by unfold mn;split <;>split <;>omega
    have JS:(de (ls.take j):Int)+mn ls[j] 1=(de (ls.take (j+1)):Int):=by
      rw[List.take_succ_eq_append_getElem l1,vX,Nq];split <;>simp
    have Hq:0<=mn ls[j] 1/\mn ls[j] 1<=1:=by rw[Nq];split <;>omega
    refine⟨by omega,by omega,ls.length-(j+1),by omega,j+1,by omega,by omega,rfl,?_,JS,hg⟩;intro x hx;rw[List.take_succ_eq_append_getElem l1]at hx;rcases List.mem_append.1 hx with e | e
    · exact Gq x e
    · have:x=ls[j]:=by simpa using e
      omega
  · have:j=ls.length:=by omega
    subst this;rw[List.take_length]at Gq J8 ⊢;have hR:=tT Gq;refine⟨fun h1=>?_,fun h1=>⟨fun h2=>?_,fun h2=>?_⟩⟩
    · have IQ:de ls=1:=by omega
      refine(uV (hr.kept_none hg) hn (by omega)).mono fun ev w2 hh=>?_;obtain⟨rfl,g2⟩:=hh;have Gn:=aA hg g2;rw[ET IQ];refine⟨_,rfl,fun h2=>⟨fun h3=>⟨?_,Gn⟩,fun h3=>?_⟩,fun h2=>⟨?_,Gn⟩⟩
      · rw[hR,h3];simp[IQ];omega
      · refine(sf (hr.kept_none Gn) hn (by omega)).mono fun ev w3 hh=>?_;obtain⟨rfl,g3⟩:=hh;refine⟨_,rfl,?_,aA Gn g3⟩;rw[hR,h3];have:ls.length<=256:=by omega
        simp[this]
      · rw[hR];have:¬ ls.length<=256:=by omega
        simp[this]
    · refine(sf (hr.kept_none hg) hn (by omega)).mono fun ev w3 hh=>?_;obtain⟨rfl,g3⟩:=hh;refine⟨_,rfl,?_,aA hg g3⟩;have:ls.length<=256:=by omega
      have IQ:¬ de ls=1:=by omega
      rw[hR];simp[this,IQ]
    · refine⟨?_,hg⟩;have:¬ ls.length<=256:=by omega
      rw[hR];simp[this]
theorem tX {w:World} {A:OA} {n c:Nat} {ls:List Int} (hr:aY w A (aT ls)) (hn:n=ls.length) :
    Calls P 90 #[.slice A n c] w fun ev w'=>ev=.returned (.bool (cF ls))/\w.grownBy w' none:=by
  apply vc90;dsimp only[VC90,rb,Br,Bb,Rd,Ix,cI]
  try simp only[aG]
  refine⟨fun h=>⟨?_,aC _ _⟩,fun h=>?_⟩
  · have:¬ ls.length<=256:=by omega
    have hR:cF ls=false:=by unfold cF;simp[this]
    rw[hR]
  have IZ:ls.length<=256:=by omega
  refine⟨fun m s one i w'=>∃ j:Nat,i=(j:Int)/\j<=ls.length/\m=ls.length-j/\(∀ x∈ls.take j,0<=x/\x<=15)/\s=(de (ls.take j):Int)/\one=(ls.take j).all (fun x=>decide (x<=1))/\w.grownBy w' none,⟨_,0,rfl,by omega,rfl,by simp,by simp[de],by simp,aC _ _⟩,?_⟩;rintro m s one i w' ⟨j,rfl,hj,rfl,Gq,rfl,rfl,hg⟩;have J8:=ki (ls.take j);have Jt:(ls.take j).length=j:=by simp;omega
  refine⟨fun Ge=>?_,fun Gj=>?_⟩
  · have l1:j<ls.length:=by omega
    obtain⟨a,Gy,Gv⟩:=(hr.kept_none hg) j (.int .i64 ls[j]) (by simp[aT,l1]);refine⟨a,Gy,by omega,by omega,_,Gv,fun h=>⟨by rw[lI (List.getElem_mem l1) (.inl h)],hg⟩,fun h=>⟨a,Gy,by omega,by omega,_,Gv,fun h'=>⟨by rw[lI (List.getElem_mem l1) (.inr (by omega))],hg⟩,fun h'=>⟨a,Gy,by omega,by omega,_,Gv,?_⟩⟩⟩;have Kt:∀ x∈ls.take (j+1),0<=x/\x<=15:=by
      intro x hx;rw[List.take_succ_eq_append_getElem l1]at hx;rcases List.mem_append.1 hx with e | e
      · exact Gq x e
      · have:x=ls[j]:=by simpa using e
        omega
    have JS:(de (ls.take (j+1)):Int)=(de (ls.take j):Int)+if 0<ls[j] then 1 else 0:=by
      rw[List.take_succ_eq_append_getElem l1,vX];split <;>simp
    have ID:(ls.take (j+1)).all (fun x=>decide (x<=1))=((ls.take j).all (fun x=>decide (x<=1)) && decide (ls[j]<=1)):=by
      rw[List.take_succ_eq_append_getElem l1,List.all_append];simp
    refine⟨fun hp=>⟨by omega,fun ht=>⟨a,Gy,by omega,by omega,_,Gv,by omega,ls.length-(j+1),by omega,j+1,by omega,by omega,rfl,Kt,by rw[JS,if_pos hp],?_,hg⟩,fun hf=>⟨by omega,ls.length-(j+1),by omega,j+1,by omega,by omega,rfl,Kt,by rw[JS,if_pos hp],?_,hg⟩⟩,fun hp=>⟨by omega,ls.length-(j+1),by omega,j+1,by omega,by omega,rfl,Kt,by rw[JS,if_neg (by omega)];omega,?_,hg⟩⟩
    · rw[ID,ht,Bool.true_and];by_cases e:ls[j]=1
      · simp[e]
      · have:¬ ls[j]<=1:=by omega
        simp[e,this]
    · rw[ID,hf];rfl
    · have:ls[j]<=1:=by omega
      rw[ID];simp[this]
  · have:j=ls.length:=by omega
    subst this;rw[List.take_length]at Gq J8 ⊢;have hR:=tT Gq;refine⟨fun h1=>⟨fun h2=>⟨?_,hg⟩,fun h2=>?_⟩,fun h1=>?_⟩
    · have IQ:de ls=1:=by omega
      rw[hR,h2];simp[IQ,IZ]
    · refine(mO (hr.kept_none hg) hn (by omega)).mono fun ev w3 hh=>?_;obtain⟨rfl,g3⟩:=hh;refine⟨_,rfl,?_,aA hg g3⟩;rw[hR,h2];simp[IZ]
    · refine(mO (hr.kept_none hg) hn (by omega)).mono fun ev w3 hh=>?_;obtain⟨rfl,g3⟩:=hh;refine⟨_,rfl,?_,aA hg g3⟩;have IQ:¬ de ls=1:=by omega
      rw[hR];simp[IZ,IQ]
abbrev nI(l:List Nat):List Int:=l.map fun s:Nat=>(s:Int)
theorem Ea{w:World}{g:Nat}{lenv:Addr}{A:OA}{n c:Nat}{ls:List Int}(Gk:w.cell? lenv=some (.slice A n c))(hr:aY w A (aT ls))(hn:n=ls.length)(h1:lenv.block≠g)(h2:∀ a,A=some a->a.block≠g){L:List Nat}(hL:∀ s∈L,s<ls.length):
    j6 lenv w g (fun x=>ln ls x.toNat) (nI L):=by
  intro w' hg x hx y hy;obtain⟨s,hs,rfl⟩:=List.mem_map.1 hx;obtain⟨t,ht,rfl⟩:=List.mem_map.1 hy;have ls':=hL s hs;have lt':=hL t ht;have Kq:w'.drew.cell? lenv=some (.slice A n c):=hg.cell Gk (by simpa using h1);have Ly:aY w'.drew A (aT ls):=hr.kept (aH hg) (fun a ha=>by simpa using h2 a ha);show Calls P 183 #[.int .i64 (s:Int),.int .i64 (t:Int),.pointer (some lenv)] w' _;apply vc183;dsimp only[VC183,Rd,Rs,Ix,cI,iq];obtain⟨a,Gy,Gv⟩:=Ly s (.int .i64 ls[s]) (by simp[aT,ls']);obtain⟨b,Hq,GD⟩:=Ly t (.int .i64 ls[t]) (by simp[aT,lt']);have ts:(s:Int).toNat=s:=by omega
  have tt:(t:Int).toNat=t:=by omega
  rw[ts,tt];refine⟨_,_,_,Kq,a,Gy,by omega,by omega,_,Gv,_,_,_,Kq,b,Hq,by omega,by omega,_,GD,?_⟩;refine nZ.mono fun ev w2 hh=>?_;obtain⟨c,h3,h4,rfl⟩:=hh;refine⟨c,h3,c,rfl,?_,aH (aC _ _)⟩;rw[h4];show _↔ln ls (s:Int).toNat<ln ls (t:Int).toNat;rw[ts,tt,lP ls',lP lt']
theorem ud{ls:List Int}(h:cF ls=true):eF ls≠[]:=by
 obtain⟨h1,h2,h3⟩:=ey h;intro e;have hp:jq ls=[]:=by
  have:=(jH ls).length_eq;rw[e]at this;exact List.eq_nil_of_length_eq_zero this.symm
 rcases h3 with h3 | h3
 ·rw[hp]at h3;simp at h3
 ·have:=zP h2;rw[e,Da]at this;omega
theorem zk {w:World} {A:OA} {n c:Nat} {ls:List Int} (hr:aY w A (aT ls)) (hn:n=ls.length) (hb:n<=2^20) :
    Calls P 157 #[.slice A n c] w fun ev w'=>∃(A':OA)(n' c':Nat),ev=.returned (.slice A' n' c')/\cR w' w.heap.size 3 A' n' c' (aT (fu ls))/\w.grownBy w' none:=by
  apply vc157;dsimp only[VC157,Wt,Br,Rd,Rs,Ix,Ap,cB,cU,nb,iq]
  try simp only[aG]
  have g1:=World.grownBy_alloc w (.cells #[.slice A n c] 33) none;have h0:=heap_alloc_new w (.cells #[.slice A n c] 33);obtain⟨w1,G8⟩:∃ w1,w1=w.alloc (.cells #[.slice A n c] 33):=⟨_,rfl⟩;rw[← G8]at g1 h0 ⊢;have Ko:∀ w',w1.grownBy w' none->w'.cell? ⟨w.heap.size,0,none⟩=some (.slice A n c):=by
    intro w' hg;have:=hg.block w.heap.size (Array.getElem?_eq_some_iff.1 h0).1 (by simp);rw[h0]at this;exact aB this 0
  have Ie:=hr.kept_none g1;refine⟨_,_,_,Ko w1 (aC _ _),?_⟩;refine(rv Ie hn hb).mono fun ev w2 hh=>?_;obtain⟨rfl,g2⟩:=hh;refine⟨_,rfl,fun hf=>?_,fun ht=>?_⟩
  · refine⟨none,0,0,rfl,?_,aA g1 g2⟩;have:fu ls=[]:=by unfold fu;rw[hf];rfl
    rw[this];exact World.ownsRow_nil _ _ _ _
  have hR:cF ls=true:=by simpa using ht
  obtain⟨IZ,HV,_⟩:=ey hR;refine⟨_,_,_,Ko w2 g2,?_⟩;refine⟨fun m Ao no co i w3=>∃ j:Nat,i=(j:Int)/\j<=ls.length/\m=ls.length-j/\cR w3 w2.heap.size 3 Ao no co (aT (nI ((List.range j).filter fun s=>decide (0<ln ls s))))/\w2.grownBy w3 none,
    ⟨_,0,rfl,by omega,rfl,World.ownsRow_nil _ _ _ _,aC _ _⟩,?_⟩
  rintro m Ao no co i w3 ⟨j,rfl,hj,rfl,ho,GA⟩;have tj:(j:Int).toNat=j:=by omega
  rw[tj];have Yk:((List.range j).filter fun s=>decide (0<ln ls s)).length<=j:=by
    have:=List.length_filter_le (fun s=>decide (0<ln ls s)) (List.range j);simpa using this
  have Ih:no=((List.range j).filter fun s=>decide (0<ln ls s)).length:=by rw[ho.cases.1];simp[aT]
  refine⟨fun Ge=>?_,fun Gj=>?_⟩
  · have l1:j<ls.length:=by omega
    obtain⟨a,Gy,Gv⟩:=(Ie.kept_none (aA g2 GA)) j (.int .i64 ls[j]) (by simp[aT,l1]);have Jt:=lP l1;refine⟨a,Gy,by omega,by omega,_,Gv,fun hp=>?_,fun hp=>⟨by omega,ls.length-(j+1),by omega,j+1,by omega,by omega,rfl,?_,GA⟩⟩
    · obtain⟨A4,n4,c4,w4,e1,e2,e3⟩:=Bl (x:=(j:Int)) ho (by omega) GA.size;refine⟨A4,n4,c4,w4,e1,by omega,ls.length-(j+1),by omega,j+1,by omega,by omega,rfl,?_,aN GA e3 ho.block_ge⟩;have:nI ((List.range (j+1)).filter fun s=>decide (0<ln ls s))=nI ((List.range j).filter fun s=>decide (0<ln ls s))++[(j:Int)]:=by
        rw[List.range_succ,List.filter_append];have:decide (0<ln ls j)=true:=by rw[Jt];simpa using hp
        simp[nI,List.filter_cons,this]
      rw[this];exact e2
    · have:(List.range (j+1)).filter (fun s=>decide (0<ln ls s))=(List.range j).filter fun s=>decide (0<ln ls s):=by
        rw[List.range_succ,List.filter_append];have:decide (0<ln ls j)=false:=by rw[Jt];simpa using hp
        simp[List.filter_cons,this]
      rw[this];exact ho
  · have Ho:j=ls.length:=by omega
    subst Ho;have Jc:cR w3 w2.heap.size 3 Ao no co (aT (nI (jq ls))):=ho;have Gh:=ud hR;have J8:(eF ls).length=(jq ls).length:=(jH ls).length_eq;have HB:0<(eF ls).length:=List.length_pos_iff.2 Gh;have Mm:no=(jq ls).length:=Ih;obtain⟨_,h | ⟨g,rfl,Yx,TL,LC,Gg⟩⟩:=Jc.cases
    · omega
    have La:=aA g2 GA;have Ps:=Ko w3 La;have KF:=Ie.kept_none La;have GK:=g2.size;have UT:=(Array.getElem?_eq_some_iff.1 h0).1;have IY:∀ a,A=some a->a.block<w1.heap.size:=by
      intro a ha;obtain⟨b,e1,e2⟩:=Ie.blk (by intro e;have:ls=[]:=(by simpa[aT]using e);rw[this]at HB;simp[eF,jq,dm]at HB);rw[ha]at e1;cases e1;exact e2
    have cmp:=Ea (g:=g) Ps KF hn (by show w.heap.size≠g;omega) (fun a ha=>by have:=IY a ha;omega) (L:=jq ls) (fun s hs=>(ue.1 hs).1);refine(EK ⟨w.heap.size,0,none⟩ Gg cmp (by simp[nI];omega) (by omega)).mono fun ev w4 hh=>?_;obtain⟨rfl,Ka,Gs⟩:=hh;have KU:dm (fun x:Int=>ln ls x.toNat) (nI (jq ls))=nI (eF ls):=mY (fun s:Nat=>(s:Int)) (fun x:Int=>ln ls x.toNat) (ln ls) (jq ls) (fun y _=>by simp);rw[KU]at Ka;have LQ:w4.cell? ⟨w.heap.size,0,none⟩=some (.slice A n c):=Gs.cell Ps (by simp;omega);have UW:aY w4 A (aT ls):=KF.kept Gs (fun a ha=>by have:=IY a ha;simp;omega);refine⟨rfl,_,_,_,LQ,?_⟩;obtain⟨w5,Ot,Oz,HT⟩:=jd (P:=P) (w:=w4) ja (by omega) (m:=n) (by omega);refine⟨_,_,_,w5,Ot,?_⟩;have MB:g<w4.heap.size:=Ka.lt;have QK:w1.heap.size<=w4.heap.size:=Nat.le_trans La.size Gs.size;have rd:∀ w6,w5.grownBy w6 (some w4.heap.size)->w6.cell? ⟨w.heap.size,0,none⟩=some (.slice A n c)/\aY w6 A (aT ls)/\aY w6 (some ⟨g,0,none⟩) (aT (nI (eF ls))):=by
      intro w6 HM;refine⟨HM.cell (HT.cell LQ (by simp)) (by simp;omega),(UW.kept_none HT).kept HM (fun a ha=>by have:=IY a ha;simp;omega),(Ka.row.kept_none HT).kept HM (fun a ha=>by cases ha;simp;omega)⟩
    refine⟨fun m nx la i w6=>∃ k:Nat,i=(k:Int)/\k<=(eF ls).length/\m=(eF ls).length-k/\nx=(cE ls ((eF ls).take k)).1/\la=(cE ls ((eF ls).take k)).2.1/\cY w6 w4.heap.size 3 n (aT (cE ls ((eF ls).take k)).2.2)/\w5.grownBy w6 (some w4.heap.size),
      ⟨_,0,rfl,by omega,rfl,rfl,rfl,?_,aC _ _⟩,?_⟩
    · simpa[cE,aT,hn]using Oz
    rintro m nx la i w6 ⟨k,rfl,hk,rfl,rfl,rfl,Ik,HM⟩;have tk:(k:Int).toNat=k:=by omega
    rw[tk];obtain⟨q1,q2,q3⟩:=rd w6 HM;refine⟨fun Ge=>?_,fun Gj=>?_⟩
    · have lk:k<(eF ls).length:=by omega
      obtain⟨b,Hq,GD⟩:=q3 k (.int .i64 ((eF ls)[k]:Int)) (by simp[aT,nI,lk]);have Mg:eF ls=(eF ls).take k++(eF ls)[k] ::(eF ls).drop (k+1):=by rw[List.getElem_cons_drop,List.take_append_drop]
      obtain⟨c1,c2,c3,c4,c5,c6,c7,c8,c9,c10,c11⟩:=wB hR Mg;have GY:(eF ls).take (k+1)=(eF ls).take k++[(eF ls)[k]]:=List.take_succ_eq_append_getElem lk;generalize hs:(eF ls)[k]=s at *;obtain⟨a,Gy,Gv⟩:=q2 s (.int .i64 ls[s]) (by simp[aT,c7]);have Jf:ls[s]=ln ls s:=(lP c7).symm;rw[Jf]at Gv;have ts:(s:Int).toNat=s:=by omega
      refine⟨b,Hq,by omega,by omega,(s:Int),GD,?_⟩;rw[ts];have mnx:min (ln ls s-(cE ls ((eF ls).take k)).2.1).toNat 64=(ln ls s-(cE ls ((eF ls).take k)).2.1).toNat:=by omega
      have Gk:=Ik.cell (j:=s) (u:=.int .i64 ((cE ls ((eF ls).take k)).2.2[s]'(by omega))) (by simp[aT,c10,c7]);refine⟨_,_,_,q1,a,Gy,by omega,by omega,_,Gv,by omega,?_⟩;rw[mnx,c4];refine⟨⟨by omega,by omega⟩,_,_,_,q1,a,Gy,by omega,by omega,_,Gv,_,rfl,by omega,by omega,⟨_,Gk⟩,Ik.notFrozen (aL _ _),by omega,by omega,(eF ls).length-(k+1),by omega,k+1,by omega,by omega,rfl,?_,?_,?_,bI HM (aL _ _) _⟩
      · rw[GY,c11]
      · rw[GY,c11]
      · rw[GY,c11];have GU:=Ik.set (j:=s) (by simp[aT,c10,c7]) (.int .i64 (cd ls s));simpa[aT,List.map_set]using GU
    · have GB:k=(eF ls).length:=by omega
      subst GB;rw[List.take_length]at Ik;have IG:(cE ls (eF ls)).2.2=fu ls:=(eL hR).2.symm;rw[IG]at Ik;have Gl:w.heap.size<=w4.heap.size:=Nat.le_trans g1.size QK;have h5:=Ik.ownsRow Gl (by simp only[maxLen];omega);have:(aT (fu ls)).length=n:=by simp[aT,fq hR,hn]
      rw[this]at h5;refine⟨_,_,_,rfl,h5,?_⟩;have e1:=aN (aA g1 La) Gs (by intro q hq;cases hq;have:=g1.size;omega);exact aN (aA e1 HT) HM (by intro q hq;cases hq;exact Gl)
theorem tY {w:World} {A:OA} {n c:Nat} {ls:List Int} (hr:aY w A (aT ls)) (hn:n=ls.length) (hb:n<=2^20) :
    Calls P 91 #[.slice A n c] w fun ev w'=>∃(A':OA)(n' c':Nat),ev=.returned (.slice A' n' c')/\cR w' w.heap.size 3 A' n' c' (aT (fu ls))/\w.grownBy w' none:=by
  apply vc91;dsimp only[VC91,Wt,Br,Rd,Ix,cB,iq]
  try simp only[aG]
  refine(tX hr hn).mono fun ev w1 hh=>?_;obtain⟨rfl,g1⟩:=hh;refine⟨_,rfl,fun hf=>?_,fun ht=>?_⟩
  · refine⟨none,0,0,rfl,?_,g1⟩;have:fu ls=[]:=by unfold fu;rw[hf];rfl
    rw[this];exact World.ownsRow_nil _ _ _ _
  have hR:cF ls=true:=by simpa using ht
  obtain⟨IZ,HV,_⟩:=ey hR;obtain⟨w2,Jq,Gg,g2⟩:=jd (P:=P) (w:=w1) ja (by omega) (m:=n) (by omega);refine⟨_,_,_,w2,Jq,?_⟩;have HB:0<(eF ls).length:=List.length_pos_iff.2 (ud hR);have IY:∀ a,A=some a->a.block<w1.heap.size:=by
    intro a ha;obtain⟨b,e1,e2⟩:=(hr.kept_none g1).blk (by intro e;have:ls=[]:=(by simpa[aT]using e);rw[this]at HB;simp[eF,jq,dm]at HB);rw[ha]at e1;cases e1;exact e2
  have rd:∀ w3,w2.grownBy w3 (some w1.heap.size)->aY w3 A (aT ls):=fun w3 h3=>((hr.kept_none g1).kept_none g2).kept h3 (fun a ha=>by have:=IY a ha;simp;omega);refine⟨fun m nx la n' w3=>∃ k:Nat,n'=((k+1:Nat):Int)/\k<=15/\m=15-k/\nx=(cE ls (fX ls k)).1/\la=(cE ls (fX ls k)).2.1/\cY w3 w1.heap.size 3 n (aT (cE ls (fX ls k)).2.2)/\w2.grownBy w3 (some w1.heap.size),
    ⟨_,0,rfl,by omega,rfl,rfl,rfl,by simpa[fX,cE,aT,hn]using Gg,aC _ _⟩,?_⟩
  rintro m nx la n' w3 ⟨k,rfl,hk,rfl,rfl,rfl,GJ,GA⟩;refine⟨fun Gu=>?_,fun Hi=>?_⟩
  · have Rr :k<15:=by omega
    refine⟨fun m nx la i w4=>∃ s:Nat,i=(s:Int)/\s<=ls.length/\m=ls.length-s/\nx=(cE ls (fX ls k++oP ls s (k+1))).1/\la=(cE ls (fX ls k++oP ls s (k+1))).2.1/\cY w4 w1.heap.size 3 n (aT (cE ls (fX ls k++oP ls s (k+1))).2.2)/\w2.grownBy w4 (some w1.heap.size),
      ⟨_,0,rfl,by omega,rfl,by simp[oP],by simp[oP],by simpa[oP]using GJ,GA⟩,?_⟩
    rintro m nx la i w4 ⟨s,rfl,hs,rfl,rfl,rfl,Hh,Gs⟩;have ts:(s:Int).toNat=s:=by omega
    rw[ts];refine⟨fun Ge=>?_,fun Gj=>?_⟩
    · have l1:s<ls.length:=by omega
      obtain⟨a,Gy,Gv⟩:=(rd w4 Gs) s (.int .i64 ls[s]) (by simp[aT,l1]);have Jf:ls[s]=ln ls s:=(lP l1).symm;rw[Jf]at Gv;refine⟨a,Gy,by omega,by omega,_,Gv,fun he=>?_,fun Gh=>⟨by omega,ls.length-(s+1),by omega,s+1,by omega,by omega,rfl,?_⟩⟩
      · obtain⟨B,hB⟩:=FP hR Rr l1 he;obtain⟨c1,c2,c3,c4,c5,c6,c7,c8,c9,c10,c11⟩:=wB hR hB;have Rb:(cE ls (fX ls k++oP ls s (k+1))).1*2^(min (((k+1:Nat):Int)-mx (cE ls (fX ls k++oP ls s (k+1))).2.1 1).toNat 64)=cd ls s:=by
          by_cases h0:(cE ls (fX ls k++oP ls s (k+1))).2.1=0
          · have:=c3 h0;rw[← c4,this];simp
          · have e1:mx (cE ls (fX ls k++oP ls s (k+1))).2.1 1=(cE ls (fX ls k++oP ls s (k+1))).2.1:=by unfold mx;split <;>omega
            rw[e1,← he];have e2:min (ln ls s-(cE ls (fX ls k++oP ls s (k+1))).2.1).toNat 64=(ln ls s-(cE ls (fX ls k++oP ls s (k+1))).2.1).toNat:=by omega
            rw[e2];exact c4
        have Th:mx (cE ls (fX ls k++oP ls s (k+1))).2.1 1<=((k+1:Nat):Int)/\1<=mx (cE ls (fX ls k++oP ls s (k+1))).2.1 1:=by unfold mx;split <;>omega
        rw[Rb];have Rh:fX ls k++oP ls (s+1) (k+1)=(fX ls k++oP ls s (k+1))++[s]:=by rw[um,if_pos he];simp
        have Gk:=Hh.cell (j:=s) (u:=.int .i64 ((cE ls (fX ls k++oP ls s (k+1))).2.2[s]'(by omega))) (by simp[aT,c10,c7]);refine⟨by omega,⟨by omega,by omega⟩,_,rfl,by omega,by omega,⟨_,Gk⟩,Hh.notFrozen (aL _ _),by omega,by omega,ls.length-(s+1),by omega,s+1,by omega,by omega,rfl,?_,?_,?_,bI Gs (aL _ _) _⟩
        · rw[Rh,c11]
        · rw[Rh,c11,he]
        · rw[Rh,c11];have GU:=Hh.set (j:=s) (by simp[aT,c10,c7]) (.int .i64 (cd ls s));simpa[aT,List.map_set]using GU
      · rw[um,if_neg Gh,List.append_nil];exact⟨rfl,rfl,Hh,Gs⟩
    · have P7:s=ls.length:=by omega
      subst P7;refine⟨by omega,15-(k+1),by omega,k+1,by omega,by omega,rfl,?_⟩;rw[kT];exact⟨rfl,rfl,Hh,Gs⟩
  · have GB:k=15:=by omega
    subst GB;rw[← wg hR,← (eL hR).2]at GJ;have h5:=GJ.ownsRow g1.size (by simp only[maxLen];omega);have:(aT (fu ls)).length=n:=by simp[aT,fq hR,hn]
    rw[this]at h5;exact⟨_,_,_,rfl,h5,aN (aA g1 g2) GA (by intro q hq;cases hq;exact g1.size)⟩
def qR(p:Int×Int):Value:=.agg #[.int .i64 p.1,.int .i64 p.2]
def Dy(x:Int):Prop:=-9223372036854775808<=x/\x<=9223372036854775807
def yC(p:Int×Int):Prop:=Dy p.1/\Dy p.2
theorem vI{x:Int}(h:Dy x):(Lit.int .i64 x).wf=true:=by
 have h1:IntKind.i64.min=-9223372036854775808:=rfl;have h2:IntKind.i64.max=9223372036854775807:=rfl;obtain⟨a,b⟩:=h;simp only[Lit.wf,Bool.and_eq_true,decide_eq_true_eq];omega
theorem FT:WideMaps.ArrKey P 228 3 2:=by
 constructor <;>first | kernel_rfl | decide
theorem keyT:C4 P 228 qR yC where
 law:=Maps.Keyed.of_law (deep_law (m:=3) (by omega) (by kernel_rfl) (by kernel_rfl) (by kernel_rfl))
 key:=fun x hx=>⟨_,WideMaps.keyOf_pair FT (by kernel_rfl) ⟨P.types.size-1,by kernel_rfl⟩ (vI hx.1) (vI hx.2)⟩
 inj:=by
  rintro⟨a,b⟩ ⟨c,d⟩ h;simp[qR]at h;simp[h]
def Sym(ls:List Int)(j:Nat)(p:Int×Int)(v:Int):Prop:=∃ s:Nat,s<j/\0<ln ls s/\p=(cd ls s,ln ls s)/\v=(s:Int)
def qk(w:World)(top g:Nat)(ls:List Int):Prop:=∃ (A1:OA) (n1 c1:Nat) (A2:OA) (n2 c2 m:Nat) (L:List ((Int×Int)×Int)),
 w.heap[g]?=some (.cells #[.slice A1 n1 c1,.slice A2 n2 c2,.map (some m)] 226 (0,0))/\aY w A1 (aT ls)/\n1=ls.length/\aY w A2 (aT (fu ls))/\n2=ls.length/\dK qR yC (Value.int .i64) w m L ∧
 (∀ p v,ef L p=some v↔Sym ls ls.length p v)/\g<top/\m<top/\(∀ a,A1=some a->a.block<top)/\(∀ a,A2=some a->a.block<top)
theorem qk.kp{w w':World}{S:Nat->Prop}{top g:Nat}{ls:List Int}(h:qk w top g ls)(hk:Kp w w' S)(hS:∀ k,k<top->¬ S k):qk w' top g ls:=by
 obtain⟨A1,n1,c1,A2,n2,c2,m,L,h1,h2,h3,h4,h5,h6,h7,h8,h9,NH,Na⟩:=h;exact⟨A1,n1,c1,A2,n2,c2,m,L,by rw[hk.block g (Array.getElem?_eq_some_iff.1 h1).1 (hS g h8)];exact h1,h2.kp hk (fun a ha _=>hS _ (NH a ha)),h3,h4.kp hk (fun a ha _=>hS _ (Na a ha)),h5,h6.kp hk (hS m h9),h7,h8,h9,NH,Na⟩
theorem we{w:World}{base:Nat}{e:TypeId}{A:OA}{n c:Nat}{xs:List Value}(h:cR w base e A n c xs):∀ a,A=some a->a.block<w.heap.size:=by
 intro a ha;rcases h.cases.2 with⟨e,_⟩ | ⟨g,e,_,_,_,h⟩
 ·rw[e]at ha;cases ha
 ·rw[e]at ha;cases ha;exact h.lt
theorem wk {w:World} {A:OA} {n c:Nat} {ls:List Int} (hr:aY w A (aT ls)) (hn:n=ls.length) (hb:n<=2^20) :
    Calls P 112 #[.slice A n c] w fun ev w'=>w.grownBy w' none/\((cF ls=false/\ev=.returned (.tuple #[.pointer none,.bool false])) ∨
      (cF ls=true/\∃ g,ev=.returned (.tuple #[.pointer (some ⟨g,0,none⟩),.bool true])/\qk w' w'.heap.size g ls)):=by
  apply vc112;dsimp only[VC112,rt,Br,Rd,Rs,Ix,cB,cS,nb,iq];refine(rv hr hn hb).mono fun ev w1 hh=>?_;obtain⟨rfl,g1⟩:=hh;refine⟨_,rfl,fun hf=>⟨g1,.inl ⟨hf,rfl⟩⟩,fun ht=>?_⟩;have hR:cF ls=true:=by simpa using ht
  obtain⟨IZ,HV,_⟩:=ey hR;refine(sR (hr.kept_none g1) hn (by omega)).mono fun ev w2 hh=>?_;obtain⟨A1,n1,c1,rfl,o1,g2⟩:=hh;refine⟨_,_,_,rfl,?_⟩;have HD:=aA g1 g2;refine(zk (hr.kept_none HD) hn hb).mono fun ev w3 hh=>?_;obtain⟨A2,n2,c2,rfl,o2,g3⟩:=hh;refine⟨_,_,_,rfl,?_⟩;have GO:=aA HD g3;have IR:n1=ls.length:=by rw[o1.cases.1];simp[aT]
  have Ir:n2=ls.length:=by rw[o2.cases.1];simp[aT,fq hR]
  have hm:=World.grownBy_alloc w3 (.map #[] 0) none;have OR:dK qR yC (Value.int .i64) (w3.alloc (.map #[] 0)) w3.heap.size ([]:List ((Int×Int)×Int)):=dK.made w3;obtain⟨w4,HU⟩:∃ w4,w4=w3.alloc (.map #[] 0):=⟨_,rfl⟩;rw[← HU]at hm OR ⊢;have Gz:w4.heap.size=w3.heap.size+1:=by rw[HU];simp
  have HT:=World.grownBy_alloc w4 (.cells #[.slice A1 n1 c1,.slice A2 n2 c2,.map (some w3.heap.size)] 226) none;have R0:=heap_alloc_new w4 (.cells #[.slice A1 n1 c1,.slice A2 n2 c2,.map (some w3.heap.size)] 226);have LH:=OR.kept HT;obtain⟨w5,Nd⟩:∃ w5,w5=w4.alloc (.cells #[.slice A1 n1 c1,.slice A2 n2 c2,.map (some w3.heap.size)] 226):=⟨_,rfl⟩;rw[← Nd]at HT R0 LH ⊢;have IL:w5.heap.size=w4.heap.size+1:=by rw[Nd];simp
  have KA:=aA hm HT;have Ot:=(hr.kept_none GO).kept_none KA;have r1:=(o1.row.kept_none g3).kept_none KA;have r2:=o2.row.kept_none KA;have b1:∀ a,A1=some a->a.block<w3.heap.size:=fun a ha=>Nat.lt_of_lt_of_le (we o1 a ha) g3.size;have b2:∀ a,A2=some a->a.block<w3.heap.size:=fun a ha=>we o2 a ha;have HB:0<(eF ls).length:=List.length_pos_iff.2 (ud hR);have bA:∀ a,A=some a->a.block<w3.heap.size:=by
    intro a ha;obtain⟨b,e1,e2⟩:=(hr.kept_none GO).blk (by intro e;have:ls=[]:=(by simpa[aT]using e);rw[this]at HB;simp[eF,jq,dm]at HB);rw[ha]at e1;cases e1;exact e2
  simp only[aG];refine⟨fun q i w6=>∃ (j:Nat) (L:List ((Int×Int)×Int)),i=(j:Int)/\j<=ls.length/\q=ls.length-j/\dK qR yC (Value.int .i64) w6 w3.heap.size L/\(∀ p v,ef L p=some v↔Sym ls j p v)/\w5.grownBy w6 (some w3.heap.size),
    ⟨_,0,[],rfl,by omega,rfl,LH,by intro p v;simp[ef,Sym],aC _ _⟩,?_⟩
  rintro q i w6 ⟨j,L,rfl,hj,rfl,hL,He,HM⟩;have tj:(j:Int).toNat=j:=by omega
  rw[tj];have RZ:w6.heap[w4.heap.size]?=some (.cells #[.slice A1 n1 c1,.slice A2 n2 c2,.map (some w3.heap.size)] 226 (0,0)):=by
    rw[HM.block w4.heap.size (Array.getElem?_eq_some_iff.1 R0).1 (by simp;omega)];exact R0
  refine⟨fun Ge=>?_,fun Gj=>?_⟩
  · have l1:j<ls.length:=by omega
    obtain⟨a,Gy,Gv⟩:=(Ot.kept HM (fun a ha=>by have:=bA a ha;simp;omega)) j (.int .i64 ls[j]) (by simp[aT,l1]);have Jt:ls[j]=ln ls j:=(lP l1).symm;rw[Jt]at Gv;refine⟨a,Gy,by omega,by omega,_,Gv,fun hp=>?_,fun hp=>⟨by omega,ls.length-(j+1),by omega,j+1,L,by omega,by omega,rfl,hL,?_,HM⟩⟩
    · have TG:w6.drew.heap[w4.heap.size]?=some (.cells #[.slice A1 n1 c1,.slice A2 n2 c2,.map (some w3.heap.size)] 226 (0,0)):=RZ;have IG:=fq hR;have r26:aY w6.drew A2 (aT (fu ls)):=r2.kept (aH HM) (fun a ha=>by have:=b2 a ha;simp;omega);obtain⟨b,Hq,GD⟩:=r26 j (.int .i64 (cd ls j)) (by simp[aT,cd,IG,l1,List.getD_eq_getElem?_getD]);have Yz:=zo hR ⟨l1,by omega⟩;have G4:=ll hR j;have Oo:=HV j;have Oy:(2:Int)^(ln ls j).toNat<=2^15:=by
        have e1:((2^(ln ls j).toNat:Nat):Int)=2^(ln ls j).toNat:=by simp
        have:=Nat.pow_le_pow_right (n:=2) (by omega) (show(ln ls j).toNat<=15 by omega);omega
      have Xe:dK qR yC (Value.int .i64) w6.drew w3.heap.size L:=hL;obtain⟨w7,e1,e2,e3⟩:=Xe.update (mt:=224) (et:=3) keyT (by kernel_rfl) (k:=(cd ls j,ln ls j)) ⟨⟨by show _<=cd ls j;omega,by show cd ls j<=_;omega⟩,⟨by show _<=ln ls j;omega,by show ln ls j<=_;omega⟩⟩ (j:Int);refine⟨_,rfl,_,by rw[aP];exact aB TG 2,_,rfl,_,_,_,by rw[aP];exact aB TG 1,b,Hq,by omega,by omega,_,GD,w7,e1,by omega,ls.length-(j+1),by omega,j+1,jb L (cd ls j,ln ls j) (j:Int),by omega,by omega,rfl,e2,?_,aA (aH HM) e3⟩;intro p v;rw[uE];by_cases e:(cd ls j,ln ls j)=p
      · rw[if_pos e];constructor
        · intro h;cases h;exact⟨j,by omega,by omega,e.symm,rfl⟩
        · rintro⟨s,s1,s2,s3,rfl⟩;rw[s3]at e;simp only[Prod.mk.injEq]at e;have:=Ec hR ⟨l1,by omega⟩ ⟨show s<ls.length by omega,s2⟩ e.2 e.1;rw[this]
      · rw[if_neg e,He];constructor
        · rintro⟨s,s1,r⟩;exact⟨s,by omega,r⟩
        · rintro⟨s,s1,s2,s3,s4⟩;refine⟨s,?_,s2,s3,s4⟩;by_cases h:s=j
          · subst h;exact absurd s3.symm e
          · omega
    · intro p v;rw[He];constructor
      · rintro⟨s,s1,r⟩;exact⟨s,by omega,r⟩
      · rintro⟨s,s1,s2,s3,s4⟩;refine⟨s,?_,s2,s3,s4⟩;by_cases h:s=j
        · subst h;omega
        · omega
  · have Ho:j=ls.length:=by omega
    subst Ho;refine⟨aN (aA GO KA) HM (by intro k hk;cases hk;exact GO.size),.inr ⟨hR,w4.heap.size,rfl,A1,n1,c1,A2,n2,c2,w3.heap.size,L,RZ,?_,IR,?_,Ir,hL,He,?_,hL.lt,?_,?_⟩⟩
    · exact r1.kept HM (fun a ha=>by have:=b1 a ha;simp;omega)
    · exact r2.kept HM (fun a ha=>by have:=b2 a ha;simp;omega)
    · exact(Array.getElem?_eq_some_iff.1 RZ).1
    · intro a ha;have:=b1 a ha;have:=HM.size;omega
    · intro a ha;have:=b2 a ha;have:=HM.size;omega
theorem Ba{ls:List Int}(h:cF ls=true){s:Nat}(hs:s<ls.length)(h0:ln ls s≠0):0<ln ls s/\ln ls s<=15/\0<=cd ls s/\cd ls s<=32767:=by
 obtain⟨_,HV,_⟩:=ey h;have hb:=HV s;have hc:=zo h ⟨hs,by omega⟩;have Oy:(2:Int)^(ln ls s).toNat<=2^15:=by
  have e1:((2^(ln ls s).toNat:Nat):Int)=2^(ln ls s).toNat:=by simp
  have:=Nat.pow_le_pow_right (n:=2) (by omega) (show(ln ls s).toNat<=15 by omega);omega
 exact⟨by omega,hb.2,ll h s,by omega⟩
theorem Ce{ls:List Int}{s:Int}(h:ii ls s=false)(bits:List Bool):bits++kv ls s=bits:=by simp[kv,h]
theorem wV{w:World}{top base g gw:Nat}{ls:List Int}{bits:List Bool}{s:Int}(hT:qk w top g ls)(hR:cF ls=true)(hW:Wr w base gw bits)(hl:bits.length<=2^30)(Gl:base<=w.heap.size):
    Calls P 113 #[.pointer (some ⟨g,0,none⟩),.pointer (some ⟨gw,0,none⟩),.int .i64 s] w fun ev w'=>ev=.returned (.bool (ii ls s))/\Wr w' base gw (bits++kv ls s)/\Kp w w' (vg w base [214,5]):=by
  obtain⟨A1,n1,c1,A2,n2,c2,m,L,hb,r1,IR,r2,Ir,_⟩:=hT;apply vc113;dsimp only[VC113,rb,Br,Rd,Rs,Ix,cU,iq];have c0:w.cell? ⟨g,0,none⟩=some (.slice A1 n1 c1):=aB hb 0;have GW:w.drew.heap[g]?=some (.cells #[.slice A1 n1 c1,.slice A2 n2 c2,.map (some m)] 226 (0,0)):=hb;have no:ii ls s=false->Wr w base gw (bits++kv ls s)/\Kp w w (vg w base [214,5]):=fun h=>by
    rw[Ce h];exact⟨hW,Kp.refl _ _⟩
  refine⟨fun h=>(by cases h),fun _=>⟨fun h=>?_,fun h0=>⟨_,rfl,_,_,_,c0,fun h=>?_,fun h1=>⟨_,rfl,_,_,_,c0,?_⟩⟩⟩⟩
  · have:ii ls s=false:=by simp[ii];omega
    rw[this];exact⟨rfl,by simpa[this]using no this⟩
  · have:ii ls s=false:=by simp[ii];omega
    rw[this];exact⟨rfl,by simpa[this]using no this⟩
  · obtain⟨k,rfl⟩:∃ k:Nat,s=k:=⟨s.toNat,by omega⟩;have tk:(k:Int).toNat=k:=by omega
    have lk:k<ls.length:=by omega
    obtain⟨a,Gy,Gv⟩:=r1 k (.int .i64 ls[k]) (by simp[aT,lk]);rw[show ls[k]=ln ls k from(lP lk).symm]at Gv;rw[tk];refine⟨a,Gy,by omega,by omega,_,Gv,fun hz=>?_,fun hz=>?_⟩
    · have:ii ls (k:Int)=false:=by simp[ii,hz]
      rw[this];exact⟨rfl,by simpa[this]using no this⟩
    · have hv:ii ls (k:Int)=true:=by simp[ii,lk,hz]
      obtain⟨b1,b2,b3,b4⟩:=Ba hR lk hz;have IG:=fq hR;obtain⟨b,Hq,GD⟩:=r2 k (.int .i64 (cd ls k)) (by simp[aT,cd,IG,lk,List.getD_eq_getElem?_getD]);refine⟨_,rfl,_,_,_,by rw[aP];exact aB GW 1,b,Hq,by omega,by omega,_,GD,⟨by omega,by omega⟩,_,rfl,_,_,_,c0,a,Gy,by omega,by omega,_,Gv,?_⟩;obtain⟨q,hq⟩:∃ q:Nat,ln ls k=(q:Int):=⟨(ln ls k).toNat,by omega⟩;rw[hq];have WL:Wr w.drew base gw bits:=hW.kept (aH (aC w none));refine(nH WL (v:=cd ls k) (n:=q) (by omega) (by omega) hl Gl).mono fun ev w2 hh=>?_;obtain⟨rfl,h2,h3⟩:=hh;refine⟨rfl,by rw[hv],?_,⟨h3.os,h3.tape,h3.output,h3.size,h3.block⟩⟩;have:kv ls (k:Int)=cN (cd ls k) q:=by simp[kv,hv,hq]
      rw[this];exact h2
theorem FR{v b:Int}(h0:0<=v/\v<=100000)(hb:0<=b/\b<=1):dE .or .i64 (v*2^1) b=2*v+b:=by
 obtain⟨n,rfl⟩:∃ n:Nat,v=n:=⟨v.toNat,by omega⟩;obtain⟨m,rfl⟩:∃ n:Nat,b=n:=⟨b.toNat,by omega⟩;have em:(n:Int)*2^1=((n*2^1:Nat):Int):=by simp
 rw[em];have e1:(BitVec.ofInt 64 ((n*2^1:Nat):Int)).toNat=n*2^1:=dl (by omega);have e2:(BitVec.ofInt 64 (m:Int)).toNat=m:=dl (by omega);show IntKind.i64.wrap (((BitVec.ofInt 64 ((n*2^1:Nat):Int) ||| BitVec.ofInt 64 (m:Int)).toNat:Nat):Int)=_;rw[BitVec.toNat_or,e1,e2,Nat.or_comm,xi (by omega)];have hz:aG .i64 (((m+n*2^1:Nat)):Int):=by
  show(-9223372036854775808:Int)<=_/\_<=(9223372036854775807:Int);omega
 rw[eR hz];omega
theorem qT{l:List Int}{at_:Nat}(h:at_+1<=8*l.length):(aZ l).drop at_=eV l at_ ::(aZ l).drop (at_+1):=by
 have hl:=ew l;rw[List.drop_eq_getElem_cons (by omega)];congr 1;simp[aZ]
theorem qx{l:List Int}{at_:Nat}(h:at_+1<=8*l.length):kb (((aZ l).drop at_).take 1)=fv (eV l at_):=by
 rw[qT h];simp[kb]
def kH(ls:List Int)(l:List Int)(at_:Nat):Value×Nat:=match jv ls 15 0 0 ((aZ l).drop at_)with
 | some (s,k)=>(.tuple #[.int .i64 (s:Int),.bool true],at_+k)
 | none=>(.tuple #[.int .i64 0,.bool false],at_)
theorem C6(w:World):Sem.run P (zeroValue 3) w=.ok (.int .i64 0) w:=by
 obtain⟨i,h1,h2,h3,h4,h5,h6⟩:=ja.ex;simp[zeroValue,typeInfo,program,Sem.run,h2,h3]
theorem lay2{w:World}{g:Nat}{x y u v:Value}{t:TypeId}(h:w.heap[g]?=some (.cells #[x,y] t (0,0))):
    (∃ z,w.cell? ⟨g,0,none⟩=some z)/\w.frozen? ⟨g,0,none⟩=false/\(∃ z,(w.setCell ⟨g,0,none⟩ u).cell? ⟨g,1,none⟩=some z)/\(w.setCell ⟨g,0,none⟩ u).frozen? ⟨g,1,none⟩=false ∧
    ((w.setCell ⟨g,0,none⟩ u).setCell ⟨g,1,none⟩ v).heap[g]?=some (.cells #[u,v] t (0,0)):=by
  have h1:=aI h 0 u;have h2:=aI h1 1 v;exact⟨⟨x,aB h 0⟩,aD h 0,⟨y,aB h1 1⟩,aD h1 1,h2⟩
theorem Cn{ls:List Int}(hR:cF ls=true){L:List ((Int×Int)×Int)}(He:∀ p v,ef L p=some v↔Sym ls ls.length p v){n:Nat}(hn:0<n)(v:Int):ef L (v,(n:Int))=(iD ls n v).map fun s:Nat=>(s:Int):=by
 cases e:iD ls n v with
 | some s =>
  obtain⟨h1,h2,h3⟩:=(jA hR hn).1 e;exact(He _ _).2 ⟨s,h1,by omega,by rw[h2,h3],rfl⟩
 | none =>
  cases e2:ef L (v,(n:Int))with
  | none=>rfl
  | some u =>
   obtain⟨s,h1,h2,h3,h4⟩:=(He _ _).1 e2;simp only[Prod.mk.injEq]at h3;have:=(jA hR hn).2 ⟨h1,h3.2.symm,h3.1.symm⟩;rw[e]at this;cases this
theorem vj {w:World} {top gt g:Nat} {A:OA} {n c:Nat} {l:List Int} {at_:Nat} {ls:List Int} (hT:qk w top gt ls) (UK:top<=g) (h:jo w g A n c l at_) (hl:l.length<=2^40) (hb:∀ x∈l,0<=x/\x<=255) (hR:cF ls=true) :
    Calls P 163 #[.pointer (some ⟨gt,0,none⟩),.pointer (some ⟨g,0,none⟩)] w fun ev w'=>ev=.returned (kH ls l at_).1/\jo w' g A n c l (kH ls l at_).2/\Kp w w' (fun k=>k=g):=by
  apply vc163;dsimp only[VC163,rt,Wt,Br,Bb,Rd,Rs,Ws,nb,iq]
  try simp only[aG]
  have MB:g<w.heap.size:=(Array.getElem?_eq_some_iff.1 h.blk).1;have JI:=heap_alloc_new w (.cells #[.slice none 0 0,.int .i64 0] 240);obtain⟨k1,k2,k3,k4,k5⟩:=lay2 (u:=.slice A n c) (v:=.int .i64 (at_:Int)) JI;refine⟨fun h=>(by simp at h),fun _=>⟨_,rfl,_,_,_,aB h.blk 0,_,by rw[aP];exact aB h.blk 1,k1,k2,k3,k4,?_⟩⟩;have JJ:Kp w (((w.alloc (.cells #[.slice none 0 0,.int .i64 0] 240)).setCell ⟨w.heap.size,0,none⟩ (.slice A n c)).setCell ⟨w.heap.size,1,none⟩ (.int .i64 (at_:Int))) (fun k=>k=g) :=
    (((Kp.refl w (fun k=>k=g)).alloc _).set (.inl (Nat.le_refl _)) _).set (.inl (Nat.le_refl _)) _
  obtain⟨w0,I1⟩:∃ w0,w0=((w.alloc (.cells #[.slice none 0 0,.int .i64 0] 240)).setCell ⟨w.heap.size,0,none⟩ (.slice A n c)).setCell ⟨w.heap.size,1,none⟩ (.int .i64 (at_:Int)):=⟨_,rfl⟩;rw[← I1]at k5 JJ ⊢;have QW:jo w0 g A n c l at_:=by
    have Mw:Kp w w0 (fun _=>False):=by
      rw[I1];exact(((Kp.refl w (fun _=>False)).alloc _).set (.inl (Nat.le_refl _)) _).set (.inl (Nat.le_refl _)) _
    exact h.kp Mw (fun h=>h) (fun _ _=>.inr (fun h=>h))
  have GH:∀ {α:Prop},α->α:=fun h=>h
  -- what is kept of the copy and of the table
  have keep:∀ w1,Kp w0 w1 (fun k=>k=g)->w1.heap[w.heap.size]?=some (.cells #[.slice A n c,.int .i64 (at_:Int)] 240 (0,0)):=by
    intro w1 h1;rw[h1.block w.heap.size (Array.getElem?_eq_some_iff.1 k5).1 (by omega)];exact k5
  have tab:∀ w1,Kp w w1 (fun k=>k=g)->qk w1 top gt ls:=fun w1 h1=>hT.kp h1 (fun k hk e=>by omega)
  have back:∀(w2:World)(j:Nat),jo w2 g A n c l (at_+j)->Kp w0 w2 (fun k=>k=g)->jv ls 15 0 0 ((aZ l).drop at_)=none->∃(x49A:OA)(x49n x49c:Nat),w2.cell? ⟨w.heap.size,0,none⟩=some (.slice x49A x49n x49c)/\(∃ x49:Int,w2.cell? ⟨w.heap.size,1,none⟩=some (.int .i64 x49)/\(∃ a50:Addr,(some ⟨g,0,none⟩:OA)=some a50/\((∃ u:Value,w2.cell? a50=some u)/\w2.frozen? a50=false/\((∃ u:Value,(w2.setCell a50 (.slice x49A x49n x49c)).cell? (a50.add 1)=some u)/\(w2.setCell a50 (.slice x49A x49n x49c)).frozen? (a50.add 1)=false ∧
      (Ending.returned (.tuple #[.int .i64 0,.bool false])=.returned (kH ls l at_).1/\jo ((w2.setCell a50 (.slice x49A x49n x49c)).setCell (a50.add 1) (.int .i64 x49)) g A n c l (kH ls l at_).2/\Kp w ((w2.setCell a50 (.slice x49A x49n x49c)).setCell (a50.add 1) (.int .i64 x49)) (fun k=>k=g)))))):=by
    intro w2 j h2 hk ht;have TK:=keep w2 hk;obtain⟨q1,q2,q3,q4,q5⟩:=lay2 (u:=.slice A n c) (v:=.int .i64 (at_:Int)) h2.blk;refine⟨_,_,_,aB TK 0,_,aB TK 1,_,rfl,q1,q2,?_⟩;rw[aP];refine⟨q3,q4,?_,?_,((JJ.trans hk).set (.inr rfl) _).set (.inr rfl) _⟩
    · simp[kH,ht]
    · refine⟨by simpa[kH,ht]using q5,?_,h2.len,by simp only[kH,ht];exact h.le,h2.ne⟩;exact h2.row.kpE (S:=fun q=>q=g) (((Kp.refl w2 (fun q=>q=g)).set (.inr rfl) _).set (.inr rfl) _) (fun a ha=>(h2.ne a ha).imp (fun e=>by rw[e];rfl) id)
  refine⟨fun q v n' w1=>∃ j:Nat,n'=(j:Int)/\j<=15/\q=15-j/\0<=v/\v<2^j/\at_+j<=8*l.length/\jv ls 15 0 0 ((aZ l).drop at_)=jv ls (15-j) j v ((aZ l).drop (at_+j))/\jo w1 g A n c l (at_+j)/\Kp w0 w1 (fun k=>k=g),
    ⟨_,0,rfl,by omega,rfl,by omega,by simp,h.le,rfl,QW,Kp.refl _ _⟩,?_⟩
  rintro q v n' w1 ⟨j,rfl,hj,rfl,KR,KE,Gu,GY,Ie,Ij⟩;have Oy:(2:Int)^j<=2^15:=by
    have e1:((2^j:Nat):Int)=2^j:=by simp
    have:=Nat.pow_le_pow_right (n:=2) (by omega) hj;omega
  refine⟨fun Ge=>?_,fun Gj=>?_⟩
  · obtain⟨r,hr⟩:∃ r,15-j=r+1:=⟨15-j-1,by omega⟩;rw[hr]at GY;refine(lC (k:=1) Ie hl hb (by omega)).mono fun ev w2 hh=>?_;obtain⟨k2,hh | hh⟩:=hh
    · obtain⟨H0,rfl,Jq⟩:=hh;refine⟨_,_,rfl,fun h=>(by cases h),fun _=>?_⟩;rw[qx H0];have JL:=fO (eV l (at_+j));rw[FR ⟨KR,by omega⟩ JL];have Mx:=Ij.trans k2;rw[qT H0]at GY;have QH:jv ls (r+1) j v (eV l (at_+j) ::(aZ l).drop (at_+j+1))=match iD ls (j+1) (2*v+fv (eV l (at_+j)))with
        | some s=>some (s,j+1)
        | none=>jv ls r (j+1) (2*v+fv (eV l (at_+j))) ((aZ l).drop (at_+j+1)):=rfl
      rw[QH]at GY;obtain⟨A1,n1,c1,A2,n2,c2,m,L,Wy,_,_,_,_,hL,He,_⟩:=tab w2 (JJ.trans Mx);have OU:=hL.look (mt:=224) (et:=3) keyT (by kernel_rfl) (C6 w2) (k:=(2*v+fv (eV l (at_+j)),(j:Int)+1)) ⟨⟨by show _<=2*v+_;omega,by show 2*v+_<=_;omega⟩,⟨by show _<=(j:Int)+1;omega,by show(j:Int)+1<=_;omega⟩⟩ true;have Tt:=Cn hR He (n:=j+1) (by omega) (2*v+fv (eV l (at_+j)));rw[show((j+1:Nat):Int)=(j:Int)+1 by omega]at Tt;rw[Tt]at OU;refine⟨⟨by omega,by omega,by omega⟩,by omega,_,rfl,_,by rw[aP];exact aB Wy 2,by omega,?_⟩;cases hf:iD ls (j+1) (2*v+fv (eV l (at_+j)))with
      | some t =>
        rw[hf]at OU GY;refine⟨(t:Int),true,OU,fun _=>?_,fun h=>(by cases h)⟩;have WR:kH ls l at_=(.tuple #[.int .i64 (t:Int),.bool true],at_+(j+1)):=by simp[kH,GY]
        rw[WR];exact⟨rfl,Jq,JJ.trans Mx⟩
      | none =>
        rw[hf]at OU GY;refine⟨0,false,OU,fun h=>(by cases h),fun _=>?_⟩;have Lt:2*v+fv (eV l (at_+j))<2^(j+1):=by rw[pow_succ'];omega
        refine⟨by omega,15-(j+1),by omega,j+1,by omega,by omega,rfl,by omega,Lt,H0,?_,Jq,Mx⟩;rw[GY,show 15-(j+1)=r by omega];rfl
    · obtain⟨Ih,rfl,Jq⟩:=hh;refine⟨_,_,rfl,fun _=>?_,fun h=>absurd rfl h⟩;refine back w2 j Jq (Ij.trans k2) ?_;rw[GY];have:(aZ l).drop (at_+j)=[]:=List.drop_eq_nil_of_le (by rw[ew];omega);rw[this];rfl
  · have Ho:j=15:=by omega
    subst Ho;refine back w1 15 Ie Ij ?_;rw[GY];rfl
end Go.Proofs.YtlieaecnllkefaaGreat

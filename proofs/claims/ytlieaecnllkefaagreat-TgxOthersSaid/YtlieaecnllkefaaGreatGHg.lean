/- Own texts, packed: F1, F2, F3, F4, F5, F6. -/
import Derived.Test.YtlieaecnllkefaaGreatGBg
import Derived.Test.YtlieaecnllkefaaGreatGFg
import Derived.Test.YtlieaecnllkefaaGreatGXg
import Derived.Test.YtlieaecnllkefaaGreatGEg
import Derived.Test.YtlieaecnllkefaaGreatGCg
import Derived.Test.YtlieaecnllkefaaGreatGGg
set_option linter.unusedVariables false
set_option linter.unusedSimpArgs false
set_option maxHeartbeats 4000000
set_option maxRecDepth 100000
namespace Go.Proofs.YtlieaecnllkefaaGreat
open Go Go.V Go.RowKit
theorem ww{w:World}{A:OA}{n c:Nat}{xs:List Int}{v:Int}(hr:bB w A (bL xs))(hn:n=xs.length)(hb:n<=2^40):
    Calls P 189 #[.slice A n c,.int .i64 v] w fun ev w'=>∃ i:Int,ev=.returned (.int .i64 i)/\(0<=i↔v∈xs)/\w.grownBy w' none:=by
  apply vc189;dsimp only[VC189,Br,Rd,Ix,iq]
  try simp only[aG]
  refine⟨fun m i w'=>∃ j:Nat,i=(j:Int)/\j<=xs.length/\m=xs.length-j/\v ∉ xs.take j/\w.grownBy w' none,⟨_,0,rfl,by omega,rfl,by simp,aD _ _⟩,?_⟩;rintro m i w' ⟨j,rfl,hj,rfl,hv,hg⟩;refine⟨fun DF=>?_,fun DK=>?_⟩
  · have l1:j<xs.length:=by omega
    obtain⟨a,EN,Ex⟩:=(hr.kept_none hg) j (.int .i64 xs[j]) (by simp[bL,l1]);refine⟨a,EN,by omega,by omega,_,Ex,fun he=>⟨_,rfl,?_,hg⟩,fun DJ=>⟨by omega,xs.length-(j+1),by omega,j+1,by omega,by omega,rfl,?_,hg⟩⟩
    · rw[he];exact⟨fun _=>List.getElem_mem l1,fun _=>by omega⟩
    · rw[List.take_succ_eq_append_getElem l1];simp only[List.mem_append,List.mem_singleton,not_or];exact⟨hv,DJ⟩
  · have:j=xs.length:=by omega
    subst this;rw[List.take_length]at hv;exact⟨_,rfl,⟨fun h=>by omega,fun h=>absurd h hv⟩,hg⟩
theorem sn{w:World}{A:OA}{n c:Nat}{xs:List Int}{v:Int}(hr:bB w A (bL xs))(hn:n=xs.length)(hb:n<=2^40):
    Calls P 180 #[.slice A n c,.int .i64 v] w fun ev w'=>ev=.returned (.bool (xs.contains v))/\w.grownBy w' none:=by
  apply vc180;dsimp only[VC180,cI,iq];refine(ww hr hn hb).mono fun ev w' hh=>?_;obtain⟨i,rfl,hi,hg⟩:=hh;refine⟨i,rfl,?_,hg⟩;congr 2;rw[Bool.eq_iff_iff,decide_eq_true_iff,List.contains_iff_mem];exact hi
theorem qs{w:World}{A:OA}{n c:Nat}{l:List Int}(hr:bB w A (bL l))(hn:n=l.length)(hl:l.length<=2^40):
    Calls P 156 #[.slice A n c] w fun ev w'=>∃(A':OA)(n' c':Nat),ev=.returned (.slice A' n' c')/\cY w' w.heap.size 3 A' n' c' (bL l)/\w.grownBy w' none:=by
  apply vc156;dsimp only[VC156,Br,Ap,nb];refine⟨fun h=>?_,fun h=>?_⟩
  · subst h;have:l=[]:=by
      cases l with
      | nil=>rfl
      | cons x l=>obtain⟨a,e,_⟩:=hr 0 _ rfl;cases e
    subst this;exact⟨none,0,0,rfl,World.ownsRow_nil _ _ _ _,aD _ _⟩
  · obtain⟨a,rfl⟩:∃ a,A=some a:=by cases A with
      | none=>exact absurd rfl h
      | some a=>exact⟨a,rfl⟩
    have hg:=World.grownBy_alloc w (.cells #[] 3) none;have ho:cY (w.alloc (.cells #[] 3)) w.heap.size 3 (some ⟨w.heap.size,0,none⟩) 0 0 []:=⟨rfl,.inr ⟨w.heap.size,0,#[],rfl,Nat.le_refl _,heap_alloc_new w _,Nat.le_refl _,Nat.zero_le _,rfl,rfl⟩⟩;obtain⟨A',n',c',w',h1,h2,h4⟩:=ho.appends (ty:=33) kA (by omega) (a:=a) (m:=n) (cc:=c) (us:=bL l) (by simp[hn]) (fun j u hj=>by obtain⟨b,e1,e2⟩:=(hr.kept_none hg) j u hj;cases e1;exact e2) (fun u hu=>by obtain⟨x,_,rfl⟩:=List.mem_map.1 hu;rfl) (by omega) hg.size;exact⟨A',n',c',w',h1,A',n',c',rfl,by simpa using h2,aP hg h4 ho.block_ge⟩
theorem pD {w:World} {A:OA} {n c:Nat} {ls:List Int} (hr:bB w A (bL ls)) (hn:n=ls.length) (hb:n<=2^20) :
    Calls P 155 #[.slice A n c] w fun ev w'=>ev=.returned (.bool (ct ls))/\w.grownBy w' none:=by
  apply vc155;dsimp only[VC155,rb,Br,Bb,Rd,Ix,cI,cB,iq]
  try simp only[aG]
  refine⟨fun m s i w'=>∃ j:Nat,i=(j:Int)/\j<=ls.length/\m=ls.length-j/\(∀ x∈ls.take j,0<=x/\x<=15)/\s=(dp (ls.take j):Int)/\w.grownBy w' none,⟨_,0,rfl,by omega,rfl,by simp,by simp[dp],aD _ _⟩,?_⟩;rintro m s i w' ⟨j,rfl,hj,rfl,DN,rfl,hg⟩;have Kq:=mg (ls.take j);have Io:(ls.take j).length=j:=by simp;omega
  refine⟨fun DF=>?_,fun DK=>?_⟩
  · have l1:j<ls.length:=by omega
    obtain⟨a,EN,Ex⟩:=(hr.kept_none hg) j (.int .i64 ls[j]) (by simp[bL,l1]);refine⟨a,EN,by omega,by omega,_,Ex,fun h=>⟨by rw[qV (List.getElem_mem l1) (.inl h)],hg⟩,fun h=>⟨fun h'=>⟨by rw[qV (List.getElem_mem l1) (.inr (by omega))],hg⟩,fun h'=>?_⟩⟩;have JF:mn ls[j] 1=if 0<ls[j] then 1 else 0:=by unfold mn;split <;>split <;>omega
    have HZ:(dp (ls.take j):Int)+mn ls[j] 1=(dp (ls.take (j+1)):Int):=by
      rw[List.take_succ_eq_append_getElem l1,z8,JF];split <;>simp
    have Gd:0<=mn ls[j] 1/\mn ls[j] 1<=1:=by rw[JF];split <;>omega
    refine⟨by omega,by omega,ls.length-(j+1),by omega,j+1,by omega,by omega,rfl,?_,HZ,hg⟩;intro x hx;rw[List.take_succ_eq_append_getElem l1]at hx;rcases List.mem_append.1 hx with e | e
    · exact DN x e
    · have:x=ls[j]:=by simpa using e
      omega
  · have:j=ls.length:=by omega
    subst this;rw[List.take_length]at DN Kq ⊢;have hR:=xP DN;refine⟨fun h1=>?_,fun h1=>⟨fun h2=>?_,fun h2=>?_⟩⟩
    · have Gq:dp ls=1:=by omega
      refine(sn (hr.kept_none hg) hn (by omega)).mono fun ev w2 hh=>?_;obtain⟨rfl,g2⟩:=hh;have DR:=aB hg g2;rw[CD Gq];refine⟨_,rfl,fun h2=>⟨fun h3=>⟨?_,DR⟩,fun h3=>?_⟩,fun h2=>⟨?_,DR⟩⟩
      · rw[hR,h3];simp[Gq];omega
      · refine(pO (hr.kept_none DR) hn (by omega)).mono fun ev w3 hh=>?_;obtain⟨rfl,g3⟩:=hh;refine⟨_,rfl,?_,aB DR g3⟩;rw[hR,h3];have:ls.length<=256:=by omega
        simp[this]
      · rw[hR];have:¬ ls.length<=256:=by omega
        simp[this]
    · refine(pO (hr.kept_none hg) hn (by omega)).mono fun ev w3 hh=>?_;obtain⟨rfl,g3⟩:=hh;refine⟨_,rfl,?_,aB hg g3⟩;have:ls.length<=256:=by omega
      have Gq:¬ dp ls=1:=by omega
      rw[hR];simp[this,Gq]
    · refine⟨?_,hg⟩;have:¬ ls.length<=256:=by omega
      rw[hR];simp[this]
abbrev nI(l:List Nat):List Int:=l.map fun s:Nat=>(s:Int)
theorem BR{w:World}{g:Nat}{lenv:Addr}{A:OA}{n c:Nat}{ls:List Int}(DO:w.cell? lenv=some (.slice A n c))(hr:bB w A (bL ls))(hn:n=ls.length)(h1:lenv.block≠g)(h2:∀ a,A=some a->a.block≠g){L:List Nat}(hL:∀ s∈L,s<ls.length):
    jf lenv w g (fun x=>ln ls x.toNat) (nI L):=by
  intro w' hg x hx y hy;obtain⟨s,hs,rfl⟩:=List.mem_map.1 hx;obtain⟨t,ht,rfl⟩:=List.mem_map.1 hy;have ls':=hL s hs;have lt':=hL t ht;have G8:w'.drew.cell? lenv=some (.slice A n c):=hg.cell DO (by simpa using h1);have Ib:bB w'.drew A (bL ls):=hr.kept (aI hg) (fun a ha=>by simpa using h2 a ha);show Calls P 183 #[.int .i64 (s:Int),.int .i64 (t:Int),.pointer (some lenv)] w' _;apply vc183;dsimp only[VC183,Rd,Rs,Ix,cI,iq];obtain⟨a,EN,Ex⟩:=Ib s (.int .i64 ls[s]) (by simp[bL,ls']);obtain⟨b,Gd,Ek⟩:=Ib t (.int .i64 ls[t]) (by simp[bL,lt']);have ts:(s:Int).toNat=s:=by omega
  have tt:(t:Int).toNat=t:=by omega
  rw[ts,tt];refine⟨_,_,_,G8,a,EN,by omega,by omega,_,Ex,_,_,_,G8,b,Gd,by omega,by omega,_,Ek,?_⟩;refine mM.mono fun ev w2 hh=>?_;obtain⟨c,h3,h4,rfl⟩:=hh;refine⟨c,h3,c,rfl,?_,aI (aD _ _)⟩;rw[h4];show _↔ln ls (s:Int).toNat<ln ls (t:Int).toNat;rw[ts,tt,lu ls',lu lt']
theorem vQ{ls:List Int}(h:ct ls=true):d6 ls≠[]:=by
 obtain⟨h1,h2,h3⟩:=eF h;intro e;have hp:i6 ls=[]:=by
  have:=(iR ls).length_eq;rw[e]at this;exact List.eq_nil_of_length_eq_zero this.symm
 rcases h3 with h3 | h3
 ·rw[hp]at h3;simp at h3
 ·have:=xD h2;rw[e,AW]at this;omega
theorem wX {w:World} {A:OA} {n c:Nat} {ls:List Int} (hr:bB w A (bL ls)) (hn:n=ls.length) (hb:n<=2^20) :
    Calls P 157 #[.slice A n c] w fun ev w'=>∃(A':OA)(n' c':Nat),ev=.returned (.slice A' n' c')/\cY w' w.heap.size 3 A' n' c' (bL (jd ls))/\w.grownBy w' none:=by
  apply vc157;dsimp only[VC157,Wt,Br,Rd,Rs,Ix,Ap,cB,cU,nb,iq]
  try simp only[aG]
  have g1:=World.grownBy_alloc w (.cells #[.slice A n c] 33) none;have h0:=heap_alloc_new w (.cells #[.slice A n c] 33);obtain⟨w1,Ez⟩:∃ w1,w1=w.alloc (.cells #[.slice A n c] 33):=⟨_,rfl⟩;rw[← Ez]at g1 h0 ⊢;have HL:∀ w',w1.grownBy w' none->w'.cell? ⟨w.heap.size,0,none⟩=some (.slice A n c):=by
    intro w' hg;have:=hg.block w.heap.size (Array.getElem?_eq_some_iff.1 h0).1 (by simp);rw[h0]at this;exact aA this 0
  have Fk:=hr.kept_none g1;refine⟨_,_,_,HL w1 (aD _ _),?_⟩;refine(pD Fk hn hb).mono fun ev w2 hh=>?_;obtain⟨rfl,g2⟩:=hh;refine⟨_,rfl,fun hf=>?_,fun ht=>?_⟩
  · refine⟨none,0,0,rfl,?_,aB g1 g2⟩;have:jd ls=[]:=by unfold jd;rw[hf];rfl
    rw[this];exact World.ownsRow_nil _ _ _ _
  have hR:ct ls=true:=by simpa using ht
  obtain⟨LK,FD,_⟩:=eF hR;refine⟨_,_,_,HL w2 g2,?_⟩;refine⟨fun m Ao no co i w3=>∃ j:Nat,i=(j:Int)/\j<=ls.length/\m=ls.length-j/\cY w3 w2.heap.size 3 Ao no co (bL (nI ((List.range j).filter fun s=>decide (0<ln ls s))))/\w2.grownBy w3 none,
    ⟨_,0,rfl,by omega,rfl,World.ownsRow_nil _ _ _ _,aD _ _⟩,?_⟩
  rintro m Ao no co i w3 ⟨j,rfl,hj,rfl,ho,D9⟩;have tj:(j:Int).toNat=j:=by omega
  rw[tj];have Td:((List.range j).filter fun s=>decide (0<ln ls s)).length<=j:=by
    have:=List.length_filter_le (fun s=>decide (0<ln ls s)) (List.range j);simpa using this
  have FP:no=((List.range j).filter fun s=>decide (0<ln ls s)).length:=by rw[ho.cases.1];simp[bL]
  refine⟨fun DF=>?_,fun DK=>?_⟩
  · have l1:j<ls.length:=by omega
    obtain⟨a,EN,Ex⟩:=(Fk.kept_none (aB g2 D9)) j (.int .i64 ls[j]) (by simp[bL,l1]);have Io:=lu l1;refine⟨a,EN,by omega,by omega,_,Ex,fun hp=>?_,fun hp=>⟨by omega,ls.length-(j+1),by omega,j+1,by omega,by omega,rfl,?_,D9⟩⟩
    · obtain⟨A4,n4,c4,w4,e1,e2,e3⟩:=yR (x:=(j:Int)) ho (by omega) D9.size;refine⟨A4,n4,c4,w4,e1,by omega,ls.length-(j+1),by omega,j+1,by omega,by omega,rfl,?_,aP D9 e3 ho.block_ge⟩;have:nI ((List.range (j+1)).filter fun s=>decide (0<ln ls s))=nI ((List.range j).filter fun s=>decide (0<ln ls s))++[(j:Int)]:=by
        rw[List.range_succ,List.filter_append];have:decide (0<ln ls j)=true:=by rw[Io];simpa using hp
        simp[nI,List.filter_cons,this]
      rw[this];exact e2
    · have:(List.range (j+1)).filter (fun s=>decide (0<ln ls s))=(List.range j).filter fun s=>decide (0<ln ls s):=by
        rw[List.range_succ,List.filter_append];have:decide (0<ln ls j)=false:=by rw[Io];simpa using hp
        simp[List.filter_cons,this]
      rw[this];exact ho
  · have EM:j=ls.length:=by omega
    subst EM;have FE:cY w3 w2.heap.size 3 Ao no co (bL (nI (i6 ls))):=ho;have DJ:=vQ hR;have Kq:(d6 ls).length=(i6 ls).length:=(iR ls).length_eq;have E7:0<(d6 ls).length:=List.length_pos_iff.2 DJ;have IR:no=(i6 ls).length:=FP;obtain⟨_,h | ⟨g,rfl,Tq,Pv,L4,DI⟩⟩:=FE.cases
    · omega
    have HI:=aB g2 D9;have Ll:=HL w3 HI;have Hn:=Fk.kept_none HI;have Fu:=g2.size;have QE:=(Array.getElem?_eq_some_iff.1 h0).1;have Hf:∀ a,A=some a->a.block<w1.heap.size:=by
      intro a ha;obtain⟨b,e1,e2⟩:=Fk.blk (by intro e;have:ls=[]:=(by simpa[bL]using e);rw[this]at E7;simp[d6,i6,cV]at E7);rw[ha]at e1;cases e1;exact e2
    have cmp:=BR (g:=g) Ll Hn hn (by show w.heap.size≠g;omega) (fun a ha=>by have:=Hf a ha;omega) (L:=i6 ls) (fun s hs=>(qZ.1 hs).1);refine(Cs ⟨w.heap.size,0,none⟩ DI cmp (by simp[nI];omega) (by omega)).mono fun ev w4 hh=>?_;obtain⟨rfl,GU,Ef⟩:=hh;have HB:cV (fun x:Int=>ln ls x.toNat) (nI (i6 ls))=nI (d6 ls):=lB (fun s:Nat=>(s:Int)) (fun x:Int=>ln ls x.toNat) (ln ls) (i6 ls) (fun y _=>by simp);rw[HB]at GU;have Iu:w4.cell? ⟨w.heap.size,0,none⟩=some (.slice A n c):=Ef.cell Ll (by simp;omega);have QI:bB w4 A (bL ls):=Hn.kept Ef (fun a ha=>by have:=Hf a ha;simp;omega);refine⟨rfl,_,_,_,Iu,?_⟩;obtain⟨w5,Kk,Ks,Hq⟩:=nH (P:=P) (w:=w4) kA (by omega) (m:=n) (by omega);refine⟨_,_,_,w5,Kk,?_⟩;have NA:g<w4.heap.size:=GU.lt;have ME:w1.heap.size<=w4.heap.size:=Nat.le_trans HI.size Ef.size;have rd:∀ w6,w5.grownBy w6 (some w4.heap.size)->w6.cell? ⟨w.heap.size,0,none⟩=some (.slice A n c)/\bB w6 A (bL ls)/\bB w6 (some ⟨g,0,none⟩) (bL (nI (d6 ls))):=by
      intro w6 Fs;refine⟨Fs.cell (Hq.cell Iu (by simp)) (by simp;omega),(QI.kept_none Hq).kept Fs (fun a ha=>by have:=Hf a ha;simp;omega),(GU.row.kept_none Hq).kept Fs (fun a ha=>by cases ha;simp;omega)⟩
    refine⟨fun m nx la i w6=>∃ k:Nat,i=(k:Int)/\k<=(d6 ls).length/\m=(d6 ls).length-k/\nx=(cQ ls ((d6 ls).take k)).1/\la=(cQ ls ((d6 ls).take k)).2.1/\cC w6 w4.heap.size 3 n (bL (cQ ls ((d6 ls).take k)).2.2)/\w5.grownBy w6 (some w4.heap.size),
      ⟨_,0,rfl,by omega,rfl,rfl,rfl,?_,aD _ _⟩,?_⟩
    · simpa[cQ,bL,hn]using Ks
    rintro m nx la i w6 ⟨k,rfl,hk,rfl,rfl,rfl,FY,Fs⟩;have tk:(k:Int).toNat=k:=by omega
    rw[tk];obtain⟨q1,q2,q3⟩:=rd w6 Fs;refine⟨fun DF=>?_,fun DK=>?_⟩
    · have lk:k<(d6 ls).length:=by omega
      obtain⟨b,Gd,Ek⟩:=q3 k (.int .i64 ((d6 ls)[k]:Int)) (by simp[bL,nI,lk]);have IJ:d6 ls=(d6 ls).take k++(d6 ls)[k] ::(d6 ls).drop (k+1):=by rw[List.getElem_cons_drop,List.take_append_drop]
      obtain⟨c1,c2,c3,c4,c5,c6,c7,c8,c9,c10,c11⟩:=AH hR IJ;have Ei:(d6 ls).take (k+1)=(d6 ls).take k++[(d6 ls)[k]]:=List.take_succ_eq_append_getElem lk;generalize hs:(d6 ls)[k]=s at *;obtain⟨a,EN,Ex⟩:=q2 s (.int .i64 ls[s]) (by simp[bL,c7]);have HG:ls[s]=ln ls s:=(lu c7).symm;rw[HG]at Ex;have ts:(s:Int).toNat=s:=by omega
      refine⟨b,Gd,by omega,by omega,(s:Int),Ek,?_⟩;rw[ts];have mnx:min (ln ls s-(cQ ls ((d6 ls).take k)).2.1).toNat 64=(ln ls s-(cQ ls ((d6 ls).take k)).2.1).toNat:=by omega
      have DO:=FY.cell (j:=s) (u:=.int .i64 ((cQ ls ((d6 ls).take k)).2.2[s]'(by omega))) (by simp[bL,c10,c7]);refine⟨_,_,_,q1,a,EN,by omega,by omega,_,Ex,by omega,?_⟩;rw[mnx,c4];refine⟨⟨by omega,by omega⟩,_,_,_,q1,a,EN,by omega,by omega,_,Ex,_,rfl,by omega,by omega,⟨_,DO⟩,FY.notFrozen (aL _ _),by omega,by omega,(d6 ls).length-(k+1),by omega,k+1,by omega,by omega,rfl,?_,?_,?_,bZ Fs (aL _ _) _⟩
      · rw[Ei,c11]
      · rw[Ei,c11]
      · rw[Ei,c11];have Ft:=FY.set (j:=s) (by simp[bL,c10,c7]) (.int .i64 (cd ls s));simpa[bL,List.map_set]using Ft
    · have D8:k=(d6 ls).length:=by omega
      subst D8;rw[List.take_length]at FY;have Gm:(cQ ls (d6 ls)).2.2=jd ls:=(eD hR).2.symm;rw[Gm]at FY;have DM:w.heap.size<=w4.heap.size:=Nat.le_trans g1.size ME;have h5:=FY.ownsRow DM (by simp only[maxLen];omega);have:(bL (jd ls)).length=n:=by simp[bL,im hR,hn]
      rw[this]at h5;refine⟨_,_,_,rfl,h5,?_⟩;have e1:=aP (aB g1 HI) Ef (by intro q hq;cases hq;have:=g1.size;omega);exact aP (aB e1 Hq) Fs (by intro q hq;cases hq;exact DM)
def pi(p:Int×Int):Value:=.agg #[.int .i64 p.1,.int .i64 p.2]
def Bq(x:Int):Prop:=-9223372036854775808<=x/\x<=9223372036854775807
def vW(p:Int×Int):Prop:=Bq p.1/\Bq p.2
theorem tx{x:Int}(h:Bq x):(Lit.int .i64 x).wf=true:=by
 have h1:IntKind.i64.min=-9223372036854775808:=rfl;have h2:IntKind.i64.max=9223372036854775807:=rfl;obtain⟨a,b⟩:=h;simp only[Lit.wf,Bool.and_eq_true,decide_eq_true_eq];omega
theorem Dt:WideMaps.ArrKey P 228 3 2:=by
 constructor <;>first | kernel_rfl | decide
theorem keyT:AQ P 228 pi vW where
 law:=Maps.Keyed.of_law (deep_law (m:=3) (by omega) (by kernel_rfl) (by kernel_rfl) (by kernel_rfl))
 key:=fun x hx=>⟨_,WideMaps.keyOf_pair Dt (by kernel_rfl) ⟨P.types.size-1,by kernel_rfl⟩ (tx hx.1) (tx hx.2)⟩
 inj:=by
  rintro⟨a,b⟩ ⟨c,d⟩ h;simp[pi]at h;simp[h]
def Sym(ls:List Int)(j:Nat)(p:Int×Int)(v:Int):Prop:=∃ s:Nat,s<j/\0<ln ls s/\p=(cd ls s,ln ls s)/\v=(s:Int)
def oe(w:World)(top g:Nat)(ls:List Int):Prop:=∃ (A1:OA) (n1 c1:Nat) (A2:OA) (n2 c2 m:Nat) (L:List ((Int×Int)×Int)),
 w.heap[g]?=some (.cells #[.slice A1 n1 c1,.slice A2 n2 c2,.map (some m)] 226 (0,0))/\bB w A1 (bL ls)/\n1=ls.length/\bB w A2 (bL (jd ls))/\n2=ls.length/\dh pi vW (Value.int .i64) w m L ∧
 (∀ p v,dy L p=some v↔Sym ls ls.length p v)/\g<top/\m<top/\(∀ a,A1=some a->a.block<top)/\(∀ a,A2=some a->a.block<top)
theorem oe.kp{w w':World}{S:Nat->Prop}{top g:Nat}{ls:List Int}(h:oe w top g ls)(hk:Kp w w' S)(hS:∀ k,k<top->¬ S k):oe w' top g ls:=by
 obtain⟨A1,n1,c1,A2,n2,c2,m,L,h1,h2,h3,h4,h5,h6,h7,h8,h9,JV,Mp⟩:=h;exact⟨A1,n1,c1,A2,n2,c2,m,L,by rw[hk.block g (Array.getElem?_eq_some_iff.1 h1).1 (hS g h8)];exact h1,h2.kp hk (fun a ha _=>hS _ (JV a ha)),h3,h4.kp hk (fun a ha _=>hS _ (Mp a ha)),h5,h6.kp hk (hS m h9),h7,h8,h9,JV,Mp⟩
theorem tX{w:World}{base:Nat}{e:TypeId}{A:OA}{n c:Nat}{xs:List Value}(h:cY w base e A n c xs):∀ a,A=some a->a.block<w.heap.size:=by
 intro a ha;rcases h.cases.2 with⟨e,_⟩ | ⟨g,e,_,_,_,h⟩
 ·rw[e]at ha;cases ha
 ·rw[e]at ha;cases ha;exact h.lt
theorem tZ {w:World} {A:OA} {n c:Nat} {ls:List Int} (hr:bB w A (bL ls)) (hn:n=ls.length) (hb:n<=2^20) :
    Calls P 112 #[.slice A n c] w fun ev w'=>w.grownBy w' none/\((ct ls=false/\ev=.returned (.tuple #[.pointer none,.bool false])) ∨
      (ct ls=true/\∃ g,ev=.returned (.tuple #[.pointer (some ⟨g,0,none⟩),.bool true])/\oe w' w'.heap.size g ls)):=by
  apply vc112;dsimp only[VC112,rt,Br,Rd,Rs,Ix,cB,cS,nb,iq];refine(pD hr hn hb).mono fun ev w1 hh=>?_;obtain⟨rfl,g1⟩:=hh;refine⟨_,rfl,fun hf=>⟨g1,.inl ⟨hf,rfl⟩⟩,fun ht=>?_⟩;have hR:ct ls=true:=by simpa using ht
  obtain⟨LK,FD,_⟩:=eF hR;refine(qs (hr.kept_none g1) hn (by omega)).mono fun ev w2 hh=>?_;obtain⟨A1,n1,c1,rfl,o1,g2⟩:=hh;refine⟨_,_,_,rfl,?_⟩;have Fd:=aB g1 g2;refine(wX (hr.kept_none Fd) hn hb).mono fun ev w3 hh=>?_;obtain⟨A2,n2,c2,rfl,o2,g3⟩:=hh;refine⟨_,_,_,rfl,?_⟩;have EO:=aB Fd g3;have Hp:n1=ls.length:=by rw[o1.cases.1];simp[bL]
  have FQ:n2=ls.length:=by rw[o2.cases.1];simp[bL,im hR]
  have hm:=World.grownBy_alloc w3 (.map #[] 0) none;have KJ:dh pi vW (Value.int .i64) (w3.alloc (.map #[] 0)) w3.heap.size ([]:List ((Int×Int)×Int)):=dh.made w3;obtain⟨w4,GC⟩:∃ w4,w4=w3.alloc (.map #[] 0):=⟨_,rfl⟩;rw[← GC]at hm KJ ⊢;have DS:w4.heap.size=w3.heap.size+1:=by rw[GC];simp
  have Hq:=World.grownBy_alloc w4 (.cells #[.slice A1 n1 c1,.slice A2 n2 c2,.map (some w3.heap.size)] 226) none;have NP:=heap_alloc_new w4 (.cells #[.slice A1 n1 c1,.slice A2 n2 c2,.map (some w3.heap.size)] 226);have Ik:=KJ.kept Hq;obtain⟨w5,LR⟩:∃ w5,w5=w4.alloc (.cells #[.slice A1 n1 c1,.slice A2 n2 c2,.map (some w3.heap.size)] 226):=⟨_,rfl⟩;rw[← LR]at Hq NP Ik ⊢;have Fx:w5.heap.size=w4.heap.size+1:=by rw[LR];simp
  have Hh:=aB hm Hq;have Kk:=(hr.kept_none EO).kept_none Hh;have r1:=(o1.row.kept_none g3).kept_none Hh;have r2:=o2.row.kept_none Hh;have b1:∀ a,A1=some a->a.block<w3.heap.size:=fun a ha=>Nat.lt_of_lt_of_le (tX o1 a ha) g3.size;have b2:∀ a,A2=some a->a.block<w3.heap.size:=fun a ha=>tX o2 a ha;have E7:0<(d6 ls).length:=List.length_pos_iff.2 (vQ hR);have bA:∀ a,A=some a->a.block<w3.heap.size:=by
    intro a ha;obtain⟨b,e1,e2⟩:=(hr.kept_none EO).blk (by intro e;have:ls=[]:=(by simpa[bL]using e);rw[this]at E7;simp[d6,i6,cV]at E7);rw[ha]at e1;cases e1;exact e2
  simp only[aG];refine⟨fun q i w6=>∃ (j:Nat) (L:List ((Int×Int)×Int)),i=(j:Int)/\j<=ls.length/\q=ls.length-j/\dh pi vW (Value.int .i64) w6 w3.heap.size L/\(∀ p v,dy L p=some v↔Sym ls j p v)/\w5.grownBy w6 (some w3.heap.size),
    ⟨_,0,[],rfl,by omega,rfl,Ik,by intro p v;simp[dy,Sym],aD _ _⟩,?_⟩
  rintro q i w6 ⟨j,L,rfl,hj,rfl,hL,EJ,Fs⟩;have tj:(j:Int).toNat=j:=by omega
  rw[tj];have NO:w6.heap[w4.heap.size]?=some (.cells #[.slice A1 n1 c1,.slice A2 n2 c2,.map (some w3.heap.size)] 226 (0,0)):=by
    rw[Fs.block w4.heap.size (Array.getElem?_eq_some_iff.1 NP).1 (by simp;omega)];exact NP
  refine⟨fun DF=>?_,fun DK=>?_⟩
  · have l1:j<ls.length:=by omega
    obtain⟨a,EN,Ex⟩:=(Kk.kept Fs (fun a ha=>by have:=bA a ha;simp;omega)) j (.int .i64 ls[j]) (by simp[bL,l1]);have Io:ls[j]=ln ls j:=(lu l1).symm;rw[Io]at Ex;refine⟨a,EN,by omega,by omega,_,Ex,fun hp=>?_,fun hp=>⟨by omega,ls.length-(j+1),by omega,j+1,L,by omega,by omega,rfl,hL,?_,Fs⟩⟩
    · have Pr:w6.drew.heap[w4.heap.size]?=some (.cells #[.slice A1 n1 c1,.slice A2 n2 c2,.map (some w3.heap.size)] 226 (0,0)):=NO;have Gm:=im hR;have r26:bB w6.drew A2 (bL (jd ls)):=r2.kept (aI Fs) (fun a ha=>by have:=b2 a ha;simp;omega);obtain⟨b,Gd,Ek⟩:=r26 j (.int .i64 (cd ls j)) (by simp[bL,cd,Gm,l1,List.getD_eq_getElem?_getD]);have Tu:=zA hR ⟨l1,by omega⟩;have Er:=mz hR j;have OQ:=FD j;have Kr:(2:Int)^(ln ls j).toNat<=2^15:=by
        have e1:((2^(ln ls j).toNat:Nat):Int)=2^(ln ls j).toNat:=by simp
        have:=Nat.pow_le_pow_right (n:=2) (by omega) (show(ln ls j).toNat<=15 by omega);omega
      have Sp:dh pi vW (Value.int .i64) w6.drew w3.heap.size L:=hL;obtain⟨w7,e1,e2,e3⟩:=Sp.update (mt:=224) (et:=3) keyT (by kernel_rfl) (k:=(cd ls j,ln ls j)) ⟨⟨by show _<=cd ls j;omega,by show cd ls j<=_;omega⟩,⟨by show _<=ln ls j;omega,by show ln ls j<=_;omega⟩⟩ (j:Int);refine⟨_,rfl,_,by rw[aN];exact aA Pr 2,_,rfl,_,_,_,by rw[aN];exact aA Pr 1,b,Gd,by omega,by omega,_,Ek,w7,e1,by omega,ls.length-(j+1),by omega,j+1,io L (cd ls j,ln ls j) (j:Int),by omega,by omega,rfl,e2,?_,aB (aI Fs) e3⟩;intro p v;rw[rJ];by_cases e:(cd ls j,ln ls j)=p
      · rw[if_pos e];constructor
        · intro h;cases h;exact⟨j,by omega,by omega,e.symm,rfl⟩
        · rintro⟨s,s1,s2,s3,rfl⟩;rw[s3]at e;simp only[Prod.mk.injEq]at e;have:=BT hR ⟨l1,by omega⟩ ⟨show s<ls.length by omega,s2⟩ e.2 e.1;rw[this]
      · rw[if_neg e,EJ];constructor
        · rintro⟨s,s1,r⟩;exact⟨s,by omega,r⟩
        · rintro⟨s,s1,s2,s3,s4⟩;refine⟨s,?_,s2,s3,s4⟩;by_cases h:s=j
          · subst h;exact absurd s3.symm e
          · omega
    · intro p v;rw[EJ];constructor
      · rintro⟨s,s1,r⟩;exact⟨s,by omega,r⟩
      · rintro⟨s,s1,s2,s3,s4⟩;refine⟨s,?_,s2,s3,s4⟩;by_cases h:s=j
        · subst h;omega
        · omega
  · have EM:j=ls.length:=by omega
    subst EM;refine⟨aP (aB EO Hh) Fs (by intro k hk;cases hk;exact EO.size),.inr ⟨hR,w4.heap.size,rfl,A1,n1,c1,A2,n2,c2,w3.heap.size,L,NO,?_,Hp,?_,FQ,hL,EJ,?_,hL.lt,?_,?_⟩⟩
    · exact r1.kept Fs (fun a ha=>by have:=b1 a ha;simp;omega)
    · exact r2.kept Fs (fun a ha=>by have:=b2 a ha;simp;omega)
    · exact(Array.getElem?_eq_some_iff.1 NO).1
    · intro a ha;have:=b1 a ha;have:=Fs.size;omega
    · intro a ha;have:=b2 a ha;have:=Fs.size;omega
theorem yI{ls:List Int}(h:ct ls=true){s:Nat}(hs:s<ls.length)(h0:ln ls s≠0):0<ln ls s/\ln ls s<=15/\0<=cd ls s/\cd ls s<=32767:=by
 obtain⟨_,FD,_⟩:=eF h;have hb:=FD s;have hc:=zA h ⟨hs,by omega⟩;have Kr:(2:Int)^(ln ls s).toNat<=2^15:=by
  have e1:((2^(ln ls s).toNat:Nat):Int)=2^(ln ls s).toNat:=by simp
  have:=Nat.pow_le_pow_right (n:=2) (by omega) (show(ln ls s).toNat<=15 by omega);omega
 exact⟨by omega,hb.2,mz h s,by omega⟩
theorem zJ{ls:List Int}{s:Int}(h:fT ls s=false)(bits:List Bool):bits++jt ls s=bits:=by simp[jt,h]
theorem uH{w:World}{top base g gw:Nat}{ls:List Int}{bits:List Bool}{s:Int}(hT:oe w top g ls)(hR:ct ls=true)(hW:Wr w base gw bits)(hl:bits.length<=2^30)(DM:base<=w.heap.size):
    Calls P 113 #[.pointer (some ⟨g,0,none⟩),.pointer (some ⟨gw,0,none⟩),.int .i64 s] w fun ev w'=>ev=.returned (.bool (fT ls s))/\Wr w' base gw (bits++jt ls s)/\Kp w w' (xB w base [214,5]):=by
  obtain⟨A1,n1,c1,A2,n2,c2,m,L,hb,r1,Hp,r2,FQ,_⟩:=hT;apply vc113;dsimp only[VC113,rb,Br,Rd,Rs,Ix,cU,iq];have c0:w.cell? ⟨g,0,none⟩=some (.slice A1 n1 c1):=aA hb 0;have En:w.drew.heap[g]?=some (.cells #[.slice A1 n1 c1,.slice A2 n2 c2,.map (some m)] 226 (0,0)):=hb;have no:fT ls s=false->Wr w base gw (bits++jt ls s)/\Kp w w (xB w base [214,5]):=fun h=>by
    rw[zJ h];exact⟨hW,Kp.refl _ _⟩
  refine⟨fun h=>(by cases h),fun _=>⟨fun h=>?_,fun h0=>⟨_,rfl,_,_,_,c0,fun h=>?_,fun h1=>⟨_,rfl,_,_,_,c0,?_⟩⟩⟩⟩
  · have:fT ls s=false:=by simp[fT];omega
    rw[this];exact⟨rfl,by simpa[this]using no this⟩
  · have:fT ls s=false:=by simp[fT];omega
    rw[this];exact⟨rfl,by simpa[this]using no this⟩
  · obtain⟨k,rfl⟩:∃ k:Nat,s=k:=⟨s.toNat,by omega⟩;have tk:(k:Int).toNat=k:=by omega
    have lk:k<ls.length:=by omega
    obtain⟨a,EN,Ex⟩:=r1 k (.int .i64 ls[k]) (by simp[bL,lk]);rw[show ls[k]=ln ls k from(lu lk).symm]at Ex;rw[tk];refine⟨a,EN,by omega,by omega,_,Ex,fun hz=>?_,fun hz=>?_⟩
    · have:fT ls (k:Int)=false:=by simp[fT,hz]
      rw[this];exact⟨rfl,by simpa[this]using no this⟩
    · have hv:fT ls (k:Int)=true:=by simp[fT,lk,hz]
      obtain⟨b1,b2,b3,b4⟩:=yI hR lk hz;have Gm:=im hR;obtain⟨b,Gd,Ek⟩:=r2 k (.int .i64 (cd ls k)) (by simp[bL,cd,Gm,lk,List.getD_eq_getElem?_getD]);refine⟨_,rfl,_,_,_,by rw[aN];exact aA En 1,b,Gd,by omega,by omega,_,Ek,⟨by omega,by omega⟩,_,rfl,_,_,_,c0,a,EN,by omega,by omega,_,Ex,?_⟩;obtain⟨q,hq⟩:∃ q:Nat,ln ls k=(q:Int):=⟨(ln ls k).toNat,by omega⟩;rw[hq];have R9:Wr w.drew base gw bits:=hW.kept (aI (aD w none));refine(mc R9 (v:=cd ls k) (n:=q) (by omega) (by omega) hl DM).mono fun ev w2 hh=>?_;obtain⟨rfl,h2,h3⟩:=hh;refine⟨rfl,by rw[hv],?_,⟨h3.os,h3.tape,h3.output,h3.size,h3.block⟩⟩;have:jt ls (k:Int)=cX (cd ls k) q:=by simp[jt,hv,hq]
      rw[this];exact h2
theorem Dr{v b:Int}(h0:0<=v/\v<=100000)(hb:0<=b/\b<=1):dC .or .i64 (v*2^1) b=2*v+b:=by
 obtain⟨n,rfl⟩:∃ n:Nat,v=n:=⟨v.toNat,by omega⟩;obtain⟨m,rfl⟩:∃ n:Nat,b=n:=⟨b.toNat,by omega⟩;have em:(n:Int)*2^1=((n*2^1:Nat):Int):=by simp
 rw[em];have e1:(BitVec.ofInt 64 ((n*2^1:Nat):Int)).toNat=n*2^1:=cP (by omega);have e2:(BitVec.ofInt 64 (m:Int)).toNat=m:=cP (by omega);show IntKind.i64.wrap (((BitVec.ofInt 64 ((n*2^1:Nat):Int) ||| BitVec.ofInt 64 (m:Int)).toNat:Nat):Int)=_;rw[BitVec.toNat_or,e1,e2,Nat.or_comm,uS (by omega)];have hz:aG .i64 (((m+n*2^1:Nat)):Int):=by
  show(-9223372036854775808:Int)<=_/\_<=(9223372036854775807:Int);omega
 rw[er hz];omega
theorem pj{l:List Int}{at_:Nat}(h:at_+1<=8*l.length):(aS l).drop at_=ef l at_ ::(aS l).drop (at_+1):=by
 have hl:=dK l;rw[List.drop_eq_getElem_cons (by omega)];congr 1;simp[aS]
theorem oG{l:List Int}{at_:Nat}(h:at_+1<=8*l.length):jj (((aS l).drop at_).take 1)=fq (ef l at_):=by
 rw[pj h];simp[jj]
def jF(ls:List Int)(l:List Int)(at_:Nat):Value×Nat:=match iJ ls 15 0 0 ((aS l).drop at_)with
 | some (s,k)=>(.tuple #[.int .i64 (s:Int),.bool true],at_+k)
 | none=>(.tuple #[.int .i64 0,.bool false],at_)
theorem AS(w:World):Sem.run P (zeroValue 3) w=.ok (.int .i64 0) w:=by
 obtain⟨i,h1,h2,h3,h4,h5,h6⟩:=kA.ex;simp[zeroValue,typeInfo,program,Sem.run,h2,h3]
theorem lay2{w:World}{g:Nat}{x y u v:Value}{t:TypeId}(h:w.heap[g]?=some (.cells #[x,y] t (0,0))):
    (∃ z,w.cell? ⟨g,0,none⟩=some z)/\w.frozen? ⟨g,0,none⟩=false/\(∃ z,(w.setCell ⟨g,0,none⟩ u).cell? ⟨g,1,none⟩=some z)/\(w.setCell ⟨g,0,none⟩ u).frozen? ⟨g,1,none⟩=false ∧
    ((w.setCell ⟨g,0,none⟩ u).setCell ⟨g,1,none⟩ v).heap[g]?=some (.cells #[u,v] t (0,0)):=by
  have h1:=aF h 0 u;have h2:=aF h1 1 v;exact⟨⟨x,aA h 0⟩,aC h 0,⟨y,aA h1 1⟩,aC h1 1,h2⟩
theorem zR{ls:List Int}(hR:ct ls=true){L:List ((Int×Int)×Int)}(EJ:∀ p v,dy L p=some v↔Sym ls ls.length p v){n:Nat}(hn:0<n)(v:Int):dy L (v,(n:Int))=(gi ls n v).map fun s:Nat=>(s:Int):=by
 cases e:gi ls n v with
 | some s =>
  obtain⟨h1,h2,h3⟩:=(iO hR hn).1 e;exact(EJ _ _).2 ⟨s,h1,by omega,by rw[h2,h3],rfl⟩
 | none =>
  cases e2:dy L (v,(n:Int))with
  | none=>rfl
  | some u =>
   obtain⟨s,h1,h2,h3,h4⟩:=(EJ _ _).1 e2;simp only[Prod.mk.injEq]at h3;have:=(iO hR hn).2 ⟨h1,h3.2.symm,h3.1.symm⟩;rw[e]at this;cases this
theorem sO {w:World} {top gt g:Nat} {A:OA} {n c:Nat} {l:List Int} {at_:Nat} {ls:List Int} (hT:oe w top gt ls) (Qw:top<=g) (h:iD w g A n c l at_) (hl:l.length<=2^40) (hb:∀ x∈l,0<=x/\x<=255) (hR:ct ls=true) :
    Calls P 163 #[.pointer (some ⟨gt,0,none⟩),.pointer (some ⟨g,0,none⟩)] w fun ev w'=>ev=.returned (jF ls l at_).1/\iD w' g A n c l (jF ls l at_).2/\Kp w w' (fun k=>k=g):=by
  apply vc163;dsimp only[VC163,rt,Wt,Br,Bb,Rd,Rs,Ws,nb,iq]
  try simp only[aG]
  have NA:g<w.heap.size:=(Array.getElem?_eq_some_iff.1 h.blk).1;have Ij:=heap_alloc_new w (.cells #[.slice none 0 0,.int .i64 0] 240);obtain⟨k1,k2,k3,k4,k5⟩:=lay2 (u:=.slice A n c) (v:=.int .i64 (at_:Int)) Ij;refine⟨fun h=>(by simp at h),fun _=>⟨_,rfl,_,_,_,aA h.blk 0,_,by rw[aN];exact aA h.blk 1,k1,k2,k3,k4,?_⟩⟩;have Gu:Kp w (((w.alloc (.cells #[.slice none 0 0,.int .i64 0] 240)).setCell ⟨w.heap.size,0,none⟩ (.slice A n c)).setCell ⟨w.heap.size,1,none⟩ (.int .i64 (at_:Int))) (fun k=>k=g) :=
    (((Kp.refl w (fun k=>k=g)).alloc _).set (.inl (Nat.le_refl _)) _).set (.inl (Nat.le_refl _)) _
  obtain⟨w0,FN⟩:∃ w0,w0=((w.alloc (.cells #[.slice none 0 0,.int .i64 0] 240)).setCell ⟨w.heap.size,0,none⟩ (.slice A n c)).setCell ⟨w.heap.size,1,none⟩ (.int .i64 (at_:Int)):=⟨_,rfl⟩;rw[← FN]at k5 Gu ⊢;have MN:iD w0 g A n c l at_:=by
    have IY:Kp w w0 (fun _=>False):=by
      rw[FN];exact(((Kp.refl w (fun _=>False)).alloc _).set (.inl (Nat.le_refl _)) _).set (.inl (Nat.le_refl _)) _
    exact h.kp IY (fun h=>h) (fun _ _=>.inr (fun h=>h))
  have EH:∀ {α:Prop},α->α:=fun h=>h
  -- what is kept of the copy and of the table
  have keep:∀ w1,Kp w0 w1 (fun k=>k=g)->w1.heap[w.heap.size]?=some (.cells #[.slice A n c,.int .i64 (at_:Int)] 240 (0,0)):=by
    intro w1 h1;rw[h1.block w.heap.size (Array.getElem?_eq_some_iff.1 k5).1 (by omega)];exact k5
  have tab:∀ w1,Kp w w1 (fun k=>k=g)->oe w1 top gt ls:=fun w1 h1=>hT.kp h1 (fun k hk e=>by omega)
  have back:∀(w2:World)(j:Nat),iD w2 g A n c l (at_+j)->Kp w0 w2 (fun k=>k=g)->iJ ls 15 0 0 ((aS l).drop at_)=none->∃(x49A:OA)(x49n x49c:Nat),w2.cell? ⟨w.heap.size,0,none⟩=some (.slice x49A x49n x49c)/\(∃ x49:Int,w2.cell? ⟨w.heap.size,1,none⟩=some (.int .i64 x49)/\(∃ a50:Addr,(some ⟨g,0,none⟩:OA)=some a50/\((∃ u:Value,w2.cell? a50=some u)/\w2.frozen? a50=false/\((∃ u:Value,(w2.setCell a50 (.slice x49A x49n x49c)).cell? (a50.add 1)=some u)/\(w2.setCell a50 (.slice x49A x49n x49c)).frozen? (a50.add 1)=false ∧
      (Ending.returned (.tuple #[.int .i64 0,.bool false])=.returned (jF ls l at_).1/\iD ((w2.setCell a50 (.slice x49A x49n x49c)).setCell (a50.add 1) (.int .i64 x49)) g A n c l (jF ls l at_).2/\Kp w ((w2.setCell a50 (.slice x49A x49n x49c)).setCell (a50.add 1) (.int .i64 x49)) (fun k=>k=g)))))):=by
    intro w2 j h2 hk ht;have Pu:=keep w2 hk;obtain⟨q1,q2,q3,q4,q5⟩:=lay2 (u:=.slice A n c) (v:=.int .i64 (at_:Int)) h2.blk;refine⟨_,_,_,aA Pu 0,_,aA Pu 1,_,rfl,q1,q2,?_⟩;rw[aN];refine⟨q3,q4,?_,?_,((Gu.trans hk).set (.inr rfl) _).set (.inr rfl) _⟩
    · simp[jF,ht]
    · refine⟨by simpa[jF,ht]using q5,?_,h2.len,by simp only[jF,ht];exact h.le,h2.ne⟩;exact h2.row.kpE (S:=fun q=>q=g) (((Kp.refl w2 (fun q=>q=g)).set (.inr rfl) _).set (.inr rfl) _) (fun a ha=>(h2.ne a ha).imp (fun e=>by rw[e];rfl) id)
  refine⟨fun q v n' w1=>∃ j:Nat,n'=(j:Int)/\j<=15/\q=15-j/\0<=v/\v<2^j/\at_+j<=8*l.length/\iJ ls 15 0 0 ((aS l).drop at_)=iJ ls (15-j) j v ((aS l).drop (at_+j))/\iD w1 g A n c l (at_+j)/\Kp w0 w1 (fun k=>k=g),
    ⟨_,0,rfl,by omega,rfl,by omega,by simp,h.le,rfl,MN,Kp.refl _ _⟩,?_⟩
  rintro q v n' w1 ⟨j,rfl,hj,rfl,Hy,Hx,DQ,Ei,Fk,FF⟩;have Kr:(2:Int)^j<=2^15:=by
    have e1:((2^j:Nat):Int)=2^j:=by simp
    have:=Nat.pow_le_pow_right (n:=2) (by omega) hj;omega
  refine⟨fun DF=>?_,fun DK=>?_⟩
  · obtain⟨r,hr⟩:∃ r,15-j=r+1:=⟨15-j-1,by omega⟩;rw[hr]at Ei;refine(j7 (k:=1) Fk hl hb (by omega)).mono fun ev w2 hh=>?_;obtain⟨k2,hh | hh⟩:=hh
    · obtain⟨Gw,rfl,GF⟩:=hh;refine⟨_,_,rfl,fun h=>(by cases h),fun _=>?_⟩;rw[oG Gw];have Gx:=fL (ef l (at_+j));rw[Dr ⟨Hy,by omega⟩ Gx];have IZ:=FF.trans k2;rw[pj Gw]at Ei;have MB:iJ ls (r+1) j v (ef l (at_+j) ::(aS l).drop (at_+j+1))=match gi ls (j+1) (2*v+fq (ef l (at_+j)))with
        | some s=>some (s,j+1)
        | none=>iJ ls r (j+1) (2*v+fq (ef l (at_+j))) ((aS l).drop (at_+j+1)):=rfl
      rw[MB]at Ei;obtain⟨A1,n1,c1,A2,n2,c2,m,L,RU,_,_,_,_,hL,EJ,_⟩:=tab w2 (Gu.trans IZ);have KN:=hL.look (mt:=224) (et:=3) keyT (by kernel_rfl) (AS w2) (k:=(2*v+fq (ef l (at_+j)),(j:Int)+1)) ⟨⟨by show _<=2*v+_;omega,by show 2*v+_<=_;omega⟩,⟨by show _<=(j:Int)+1;omega,by show(j:Int)+1<=_;omega⟩⟩ true;have Pi:=zR hR EJ (n:=j+1) (by omega) (2*v+fq (ef l (at_+j)));rw[show((j+1:Nat):Int)=(j:Int)+1 by omega]at Pi;rw[Pi]at KN;refine⟨⟨by omega,by omega,by omega⟩,by omega,_,rfl,_,by rw[aN];exact aA RU 2,by omega,?_⟩;cases hf:gi ls (j+1) (2*v+fq (ef l (at_+j)))with
      | some t =>
        rw[hf]at KN Ei;refine⟨(t:Int),true,KN,fun _=>?_,fun h=>(by cases h)⟩;have Sd:jF ls l at_=(.tuple #[.int .i64 (t:Int),.bool true],at_+(j+1)):=by simp[jF,Ei]
        rw[Sd];exact⟨rfl,GF,Gu.trans IZ⟩
      | none =>
        rw[hf]at KN Ei;refine⟨0,false,KN,fun h=>(by cases h),fun _=>?_⟩;have HV:2*v+fq (ef l (at_+j))<2^(j+1):=by rw[pow_succ'];omega
        refine⟨by omega,15-(j+1),by omega,j+1,by omega,by omega,rfl,by omega,HV,Gw,?_,GF,IZ⟩;rw[Ei,show 15-(j+1)=r by omega];rfl
    · obtain⟨FP,rfl,GF⟩:=hh;refine⟨_,_,rfl,fun _=>?_,fun h=>absurd rfl h⟩;refine back w2 j GF (FF.trans k2) ?_;rw[Ei];have:(aS l).drop (at_+j)=[]:=List.drop_eq_nil_of_le (by rw[dK];omega);rw[this];rfl
  · have EM:j=15:=by omega
    subst EM;refine back w1 15 Fk FF ?_;rw[Ei];rfl
end Go.Proofs.YtlieaecnllkefaaGreat

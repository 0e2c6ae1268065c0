/- Own texts, packed: F1, F2, F3, F4, F5, F6. -/
import Derived.Test.YtlieaecnllkefaaGreatGBg
import Derived.Test.YtlieaecnllkefaaGreatGFg
import Derived.Test.YtlieaecnllkefaaGreatGXg
import Derived.Test.YtlieaecnllkefaaGreatGEg
import Derived.Test.YtlieaecnllkefaaGreatGCg
import Derived.Test.YtlieaecnllkefaaGreatGGg
set_option linter.unusedVariables false
set_option linter.unusedSimpArgs false
set_option maxHeartbeats 4000000
set_option maxRecDepth 100000
namespace Go.Proofs.YtlieaecnllkefaaGreat
open Go Go.V Go.RowKit
theorem yO{w:World}{A:OA}{n c:Nat}{xs:List Int}{v:Int}(hr:aZ w A (aT xs))(hn:n=xs.length)(hb:n<=2^40):
    Calls P 189 #[.slice A n c,.int .i64 v] w fun ev w'=>∃ i:Int,ev=.returned (.int .i64 i)/\(0<=i↔v∈xs)/\w.grownBy w' none:=by
  apply vc189;dsimp only[VC189,Br,Rd,Ix,iq]
  try simp only[aG]
  refine⟨fun m i w'=>∃ j:Nat,i=(j:Int)/\j<=xs.length/\m=xs.length-j/\v ∉ xs.take j/\w.grownBy w' none,⟨_,0,rfl,by omega,rfl,by simp,aC _ _⟩,?_⟩;rintro m i w' ⟨j,rfl,hj,rfl,hv,hg⟩;refine⟨fun FP=>?_,fun FU=>?_⟩
  · have l1:j<xs.length:=by omega
    obtain⟨a,Ge,Gb⟩:=(hr.kept_none hg) j (.int .i64 xs[j]) (by simp[aT,l1]);refine⟨a,Ge,by omega,by omega,_,Gb,fun he=>⟨_,rfl,?_,hg⟩,fun FS=>⟨by omega,xs.length-(j+1),by omega,j+1,by omega,by omega,rfl,?_,hg⟩⟩
    · rw[he];exact⟨fun _=>List.getElem_mem l1,fun _=>by omega⟩
    · rw[List.take_succ_eq_append_getElem l1];simp only[List.mem_append,List.mem_singleton,not_or];exact⟨hv,FS⟩
  · have:j=xs.length:=by omega
    subst this;rw[List.take_length]at hv;exact⟨_,rfl,⟨fun h=>by omega,fun h=>absurd h hv⟩,hg⟩
theorem u5{w:World}{A:OA}{n c:Nat}{xs:List Int}{v:Int}(hr:aZ w A (aT xs))(hn:n=xs.length)(hb:n<=2^40):
    Calls P 180 #[.slice A n c,.int .i64 v] w fun ev w'=>ev=.returned (.bool (xs.contains v))/\w.grownBy w' none:=by
  apply vc180;dsimp only[VC180,cI,iq];refine(yO hr hn hb).mono fun ev w' hh=>?_;obtain⟨i,rfl,hi,hg⟩:=hh;refine⟨i,rfl,?_,hg⟩;congr 2;rw[Bool.eq_iff_iff,decide_eq_true_iff,List.contains_iff_mem];exact hi
theorem sW{w:World}{A:OA}{n c:Nat}{l:List Int}(hr:aZ w A (aT l))(hn:n=l.length)(hl:l.length<=2^40):
    Calls P 156 #[.slice A n c] w fun ev w'=>∃(A':OA)(n' c':Nat),ev=.returned (.slice A' n' c')/\cP w' w.heap.size 3 A' n' c' (aT l)/\w.grownBy w' none:=by
  apply vc156;dsimp only[VC156,Br,Ap,nb];refine⟨fun h=>?_,fun h=>?_⟩
  · subst h;have:l=[]:=by
      cases l with
      | nil=>rfl
      | cons x l=>obtain⟨a,e,_⟩:=hr 0 _ rfl;cases e
    subst this;exact⟨none,0,0,rfl,World.ownsRow_nil _ _ _ _,aC _ _⟩
  · obtain⟨a,rfl⟩:∃ a,A=some a:=by cases A with
      | none=>exact absurd rfl h
      | some a=>exact⟨a,rfl⟩
    have hg:=World.grownBy_alloc w (.cells #[] 3) none;have ho:cP (w.alloc (.cells #[] 3)) w.heap.size 3 (some ⟨w.heap.size,0,none⟩) 0 0 []:=⟨rfl,.inr ⟨w.heap.size,0,#[],rfl,Nat.le_refl _,heap_alloc_new w _,Nat.le_refl _,Nat.zero_le _,rfl,rfl⟩⟩;obtain⟨A',n',c',w',h1,h2,h4⟩:=ho.appends (ty:=33) jh (by omega) (a:=a) (m:=n) (cc:=c) (us:=aT l) (by simp[hn]) (fun j u hj=>by obtain⟨b,e1,e2⟩:=(hr.kept_none hg) j u hj;cases e1;exact e2) (fun u hu=>by obtain⟨x,_,rfl⟩:=List.mem_map.1 hu;rfl) (by omega) hg.size;exact⟨A',n',c',w',h1,A',n',c',rfl,by simpa using h2,aN hg h4 ho.block_ge⟩
theorem rG {w:World} {A:OA} {n c:Nat} {ls:List Int} (hr:aZ w A (aT ls)) (hn:n=ls.length) (hb:n<=2^20) :
    Calls P 155 #[.slice A n c] w fun ev w'=>ev=.returned (.bool (cz ls))/\w.grownBy w' none:=by
  apply vc155;dsimp only[VC155,rb,Br,Bb,Rd,Ix,cI,cB,iq]
  try simp only[aG]
  refine⟨fun m s i w'=>∃ j:Nat,i=(j:Int)/\j<=ls.length/\m=ls.length-j/\(∀ x∈ls.take j,0<=x/\x<=15)/\s=(cZ (ls.take j):Int)/\w.grownBy w' none,⟨_,0,rfl,by omega,rfl,by simp,by simp[cZ],aC _ _⟩,?_⟩;rintro m s i w' ⟨j,rfl,hj,rfl,FZ,rfl,hg⟩;have JP:=kr (ls.take j);have I9:(ls.take j).length=j:=by simp;omega
  refine⟨fun FP=>?_,fun FU=>?_⟩
  · have l1:j<ls.length:=by omega
    obtain⟨a,Ge,Gb⟩:=(hr.kept_none hg) j (.int .i64 ls[j]) (by simp[aT,l1]);refine⟨a,Ge,by omega,by omega,_,Gb,fun h=>⟨by rw[lS (List.getElem_mem l1) (.inl h)],hg⟩,fun h=>⟨fun h'=>⟨by rw[lS (List.getElem_mem l1) (.inr (by omega))],hg⟩,fun h'=>?_⟩⟩;have KE:mn ls[j] 1=if 0<ls[j] then 1 else 0:=by unfold mn;split <;>split <;>omega
    have Jz:(cZ (ls.take j):Int)+mn ls[j] 1=(cZ (ls.take (j+1)):Int):=by
      rw[List.take_succ_eq_append_getElem l1,v8,KE];split <;>simp
    have Hy:0<=mn ls[j] 1/\mn ls[j] 1<=1:=by rw[KE];split <;>omega
    refine⟨by omega,by omega,ls.length-(j+1),by omega,j+1,by omega,by omega,rfl,?_,Jz,hg⟩;intro x hx;rw[List.take_succ_eq_append_getElem l1]at hx;rcases List.mem_append.1 hx with e | e
    · exact FZ x e
    · have:x=ls[j]:=by simpa using e
      omega
  · have:j=ls.length:=by omega
    subst this;rw[List.take_length]at FZ JP ⊢;have hR:=tW FZ;refine⟨fun h1=>?_,fun h1=>⟨fun h2=>?_,fun h2=>?_⟩⟩
    · have Iw:cZ ls=1:=by omega
      refine(u5 (hr.kept_none hg) hn (by omega)).mono fun ev w2 hh=>?_;obtain⟨rfl,g2⟩:=hh;have FY:=aA hg g2;rw[ED Iw];refine⟨_,rfl,fun h2=>⟨fun h3=>⟨?_,FY⟩,fun h3=>?_⟩,fun h2=>⟨?_,FY⟩⟩
      · rw[hR,h3];simp[Iw];omega
      · refine(si (hr.kept_none FY) hn (by omega)).mono fun ev w3 hh=>?_;obtain⟨rfl,g3⟩:=hh;refine⟨_,rfl,?_,aA FY g3⟩;rw[hR,h3];have:ls.length<=256:=by omega
        simp[this]
      · rw[hR];have:¬ ls.length<=256:=by omega
        simp[this]
    · refine(si (hr.kept_none hg) hn (by omega)).mono fun ev w3 hh=>?_;obtain⟨rfl,g3⟩:=hh;refine⟨_,rfl,?_,aA hg g3⟩;have:ls.length<=256:=by omega
      have Iw:¬ cZ ls=1:=by omega
      rw[hR];simp[this,Iw]
    · refine⟨?_,hg⟩;have:¬ ls.length<=256:=by omega
      rw[hR];simp[this]
theorem t9 {w:World} {A:OA} {n c:Nat} {ls:List Int} (hr:aZ w A (aT ls)) (hn:n=ls.length) :
    Calls P 90 #[.slice A n c] w fun ev w'=>ev=.returned (.bool (cz ls))/\w.grownBy w' none:=by
  apply vc90;dsimp only[VC90,rb,Br,Bb,Rd,Ix,cI]
  try simp only[aG]
  refine⟨fun h=>⟨?_,aC _ _⟩,fun h=>?_⟩
  · have:¬ ls.length<=256:=by omega
    have hR:cz ls=false:=by unfold cz;simp[this]
    rw[hR]
  have IF:ls.length<=256:=by omega
  refine⟨fun m s one i w'=>∃ j:Nat,i=(j:Int)/\j<=ls.length/\m=ls.length-j/\(∀ x∈ls.take j,0<=x/\x<=15)/\s=(cZ (ls.take j):Int)/\one=(ls.take j).all (fun x=>decide (x<=1))/\w.grownBy w' none,⟨_,0,rfl,by omega,rfl,by simp,by simp[cZ],by simp,aC _ _⟩,?_⟩;rintro m s one i w' ⟨j,rfl,hj,rfl,FZ,rfl,rfl,hg⟩;have JP:=kr (ls.take j);have I9:(ls.take j).length=j:=by simp;omega
  refine⟨fun FP=>?_,fun FU=>?_⟩
  · have l1:j<ls.length:=by omega
    obtain⟨a,Ge,Gb⟩:=(hr.kept_none hg) j (.int .i64 ls[j]) (by simp[aT,l1]);refine⟨a,Ge,by omega,by omega,_,Gb,fun h=>⟨by rw[lS (List.getElem_mem l1) (.inl h)],hg⟩,fun h=>⟨a,Ge,by omega,by omega,_,Gb,fun h'=>⟨by rw[lS (List.getElem_mem l1) (.inr (by omega))],hg⟩,fun h'=>⟨a,Ge,by omega,by omega,_,Gb,?_⟩⟩⟩;have Kd:∀ x∈ls.take (j+1),0<=x/\x<=15:=by
      intro x hx;rw[List.take_succ_eq_append_getElem l1]at hx;rcases List.mem_append.1 hx with e | e
      · exact FZ x e
      · have:x=ls[j]:=by simpa using e
        omega
    have Jz:(cZ (ls.take (j+1)):Int)=(cZ (ls.take j):Int)+if 0<ls[j] then 1 else 0:=by
      rw[List.take_succ_eq_append_getElem l1,v8];split <;>simp
    have Ih:(ls.take (j+1)).all (fun x=>decide (x<=1))=((ls.take j).all (fun x=>decide (x<=1)) && decide (ls[j]<=1)):=by
      rw[List.take_succ_eq_append_getElem l1,List.all_append];simp
    refine⟨fun hp=>⟨by omega,fun ht=>⟨a,Ge,by omega,by omega,_,Gb,by omega,ls.length-(j+1),by omega,j+1,by omega,by omega,rfl,Kd,by rw[Jz,if_pos hp],?_,hg⟩,fun hf=>⟨by omega,ls.length-(j+1),by omega,j+1,by omega,by omega,rfl,Kd,by rw[Jz,if_pos hp],?_,hg⟩⟩,fun hp=>⟨by omega,ls.length-(j+1),by omega,j+1,by omega,by omega,rfl,Kd,by rw[Jz,if_neg (by omega)];omega,?_,hg⟩⟩
    · rw[Ih,ht,Bool.true_and];by_cases e:ls[j]=1
      · simp[e]
      · have:¬ ls[j]<=1:=by omega
        simp[e,this]
    · rw[Ih,hf];rfl
    · have:ls[j]<=1:=by omega
      rw[Ih];simp[this]
  · have:j=ls.length:=by omega
    subst this;rw[List.take_length]at FZ JP ⊢;have hR:=tW FZ;refine⟨fun h1=>⟨fun h2=>⟨?_,hg⟩,fun h2=>?_⟩,fun h1=>?_⟩
    · have Iw:cZ ls=1:=by omega
      rw[hR,h2];simp[Iw,IF]
    · refine(mR (hr.kept_none hg) hn (by omega)).mono fun ev w3 hh=>?_;obtain⟨rfl,g3⟩:=hh;refine⟨_,rfl,?_,aA hg g3⟩;rw[hR,h2];simp[IF]
    · refine(mR (hr.kept_none hg) hn (by omega)).mono fun ev w3 hh=>?_;obtain⟨rfl,g3⟩:=hh;refine⟨_,rfl,?_,aA hg g3⟩;have Iw:¬ cZ ls=1:=by omega
      rw[hR];simp[IF,Iw]
abbrev nI(l:List Nat):List Int:=l.map fun s:Nat=>(s:Int)
theorem DK{w:World}{g:Nat}{lenv:Addr}{A:OA}{n c:Nat}{ls:List Int}(FV:w.cell? lenv=some (.slice A n c))(hr:aZ w A (aT ls))(hn:n=ls.length)(h1:lenv.block≠g)(h2:∀ a,A=some a->a.block≠g){L:List Nat}(hL:∀ s∈L,s<ls.length):
    ke lenv w g (fun x=>ln ls x.toNat) (nI L):=by
  intro w' hg x hx y hy;obtain⟨s,hs,rfl⟩:=List.mem_map.1 hx;obtain⟨t,ht,rfl⟩:=List.mem_map.1 hy;have ls':=hL s hs;have lt':=hL t ht;have Kb:w'.drew.cell? lenv=some (.slice A n c):=hg.cell FV (by simpa using h1);have Ln:aZ w'.drew A (aT ls):=hr.kept (aI hg) (fun a ha=>by simpa using h2 a ha);show Calls P 183 #[.int .i64 (s:Int),.int .i64 (t:Int),.pointer (some lenv)] w' _;apply vc183;dsimp only[VC183,Rd,Rs,Ix,cI,iq];obtain⟨a,Ge,Gb⟩:=Ln s (.int .i64 ls[s]) (by simp[aT,ls']);obtain⟨b,Hy,Gf⟩:=Ln t (.int .i64 ls[t]) (by simp[aT,lt']);have ts:(s:Int).toNat=s:=by omega
  have tt:(t:Int).toNat=t:=by omega
  rw[ts,tt];refine⟨_,_,_,Kb,a,Ge,by omega,by omega,_,Gb,_,_,_,Kb,b,Hy,by omega,by omega,_,Gf,?_⟩;refine om.mono fun ev w2 hh=>?_;obtain⟨c,h3,h4,rfl⟩:=hh;refine⟨c,h3,c,rfl,?_,aI (aC _ _)⟩;rw[h4];show _↔ln ls (s:Int).toNat<ln ls (t:Int).toNat;rw[ts,tt,mc ls',mc lt']
theorem ug{ls:List Int}(h:cz ls=true):ez ls≠[]:=by
 obtain⟨h1,h2,h3⟩:=er h;intro e;have hp:jv ls=[]:=by
  have:=(jM ls).length_eq;rw[e]at this;exact List.eq_nil_of_length_eq_zero this.symm
 rcases h3 with h3 | h3
 ·rw[hp]at h3;simp at h3
 ·have:=zK h2;rw[e,CX]at this;omega
theorem zg {w:World} {A:OA} {n c:Nat} {ls:List Int} (hr:aZ w A (aT ls)) (hn:n=ls.length) (hb:n<=2^20) :
    Calls P 157 #[.slice A n c] w fun ev w'=>∃(A':OA)(n' c':Nat),ev=.returned (.slice A' n' c')/\cP w' w.heap.size 3 A' n' c' (aT (fw ls))/\w.grownBy w' none:=by
  apply vc157;dsimp only[VC157,Wt,Br,Rd,Rs,Ix,Ap,cB,cU,nb,iq]
  try simp only[aG]
  have g1:=World.grownBy_alloc w (.cells #[.slice A n c] 33) none;have h0:=heap_alloc_new w (.cells #[.slice A n c] 33);obtain⟨w1,GK⟩:∃ w1,w1=w.alloc (.cells #[.slice A n c] 33):=⟨_,rfl⟩;rw[← GK]at g1 h0 ⊢;have Ka:∀ w',w1.grownBy w' none->w'.cell? ⟨w.heap.size,0,none⟩=some (.slice A n c):=by
    intro w' hg;have:=hg.block w.heap.size (Array.getElem?_eq_some_iff.1 h0).1 (by simp);rw[h0]at this;exact aB this 0
  have HN:=hr.kept_none g1;refine⟨_,_,_,Ka w1 (aC _ _),?_⟩;refine(rG HN hn hb).mono fun ev w2 hh=>?_;obtain⟨rfl,g2⟩:=hh;refine⟨_,rfl,fun hf=>?_,fun ht=>?_⟩
  · refine⟨none,0,0,rfl,?_,aA g1 g2⟩;have:fw ls=[]:=by unfold fw;rw[hf];rfl
    rw[this];exact World.ownsRow_nil _ _ _ _
  have hR:cz ls=true:=by simpa using ht
  obtain⟨IF,HF,_⟩:=er hR;refine⟨_,_,_,Ka w2 g2,?_⟩;refine⟨fun m Ao no co i w3=>∃ j:Nat,i=(j:Int)/\j<=ls.length/\m=ls.length-j/\cP w3 w2.heap.size 3 Ao no co (aT (nI ((List.range j).filter fun s=>decide (0<ln ls s))))/\w2.grownBy w3 none,
    ⟨_,0,rfl,by omega,rfl,World.ownsRow_nil _ _ _ _,aC _ _⟩,?_⟩
  rintro m Ao no co i w3 ⟨j,rfl,hj,rfl,ho,Gh⟩;have tj:(j:Int).toNat=j:=by omega
  rw[tj];have Xh:((List.range j).filter fun s=>decide (0<ln ls s)).length<=j:=by
    have:=List.length_filter_le (fun s=>decide (0<ln ls s)) (List.range j);simpa using this
  have Hm:no=((List.range j).filter fun s=>decide (0<ln ls s)).length:=by rw[ho.cases.1];simp[aT]
  refine⟨fun FP=>?_,fun FU=>?_⟩
  · have l1:j<ls.length:=by omega
    obtain⟨a,Ge,Gb⟩:=(HN.kept_none (aA g2 Gh)) j (.int .i64 ls[j]) (by simp[aT,l1]);have I9:=mc l1;refine⟨a,Ge,by omega,by omega,_,Gb,fun hp=>?_,fun hp=>⟨by omega,ls.length-(j+1),by omega,j+1,by omega,by omega,rfl,?_,Gh⟩⟩
    · obtain⟨A4,n4,c4,w4,e1,e2,e3⟩:=Bd (x:=(j:Int)) ho (by omega) Gh.size;refine⟨A4,n4,c4,w4,e1,by omega,ls.length-(j+1),by omega,j+1,by omega,by omega,rfl,?_,aN Gh e3 ho.block_ge⟩;have:nI ((List.range (j+1)).filter fun s=>decide (0<ln ls s))=nI ((List.range j).filter fun s=>decide (0<ln ls s))++[(j:Int)]:=by
        rw[List.range_succ,List.filter_append];have:decide (0<ln ls j)=true:=by rw[I9];simpa using hp
        simp[nI,List.filter_cons,this]
      rw[this];exact e2
    · have:(List.range (j+1)).filter (fun s=>decide (0<ln ls s))=(List.range j).filter fun s=>decide (0<ln ls s):=by
        rw[List.range_succ,List.filter_append];have:decide (0<ln ls j)=false:=by rw[I9];simpa using hp
        simp[List.filter_cons,this]
      rw[this];exact ho
  · have G2:j=ls.length:=by omega
    subst G2;have IR:cP w3 w2.heap.size 3 Ao no co (aT (nI (jv ls))):=ho;have FS:=ug hR;have JP:(ez ls).length=(jv ls).length:=(jM ls).length_eq;have Hh:0<(ez ls).length:=List.length_pos_iff.2 FS;have L0:no=(jv ls).length:=Hm;obtain⟨_,h | ⟨g,rfl,Xt,Te,MZ,FR⟩⟩:=IR.cases
    · omega
    have KL:=aA g2 Gh;have Mo:=Ka w3 KL;have Ko:=HN.kept_none KL;have GI:=g2.size;have Us:=(Array.getElem?_eq_some_iff.1 h0).1;have IE:∀ a,A=some a->a.block<w1.heap.size:=by
      intro a ha;obtain⟨b,e1,e2⟩:=HN.blk (by intro e;have:ls=[]:=(by simpa[aT]using e);rw[this]at Hh;simp[ez,jv,dj]at Hh);rw[ha]at e1;cases e1;exact e2
    have cmp:=DK (g:=g) Mo Ko hn (by show w.heap.size≠g;omega) (fun a ha=>by have:=IE a ha;omega) (L:=jv ls) (fun s hs=>(uh.1 hs).1);refine(Et ⟨w.heap.size,0,none⟩ FR cmp (by simp[nI];omega) (by omega)).mono fun ev w4 hh=>?_;obtain⟨rfl,JR,F8⟩:=hh;have KB:dj (fun x:Int=>ln ls x.toNat) (nI (jv ls))=nI (ez ls):=m0 (fun s:Nat=>(s:Int)) (fun x:Int=>ln ls x.toNat) (ln ls) (jv ls) (fun y _=>by simp);rw[KB]at JR;have LC:w4.cell? ⟨w.heap.size,0,none⟩=some (.slice A n c):=F8.cell Mo (by simp;omega);have Uv:aZ w4 A (aT ls):=Ko.kept F8 (fun a ha=>by have:=IE a ha;simp;omega);refine⟨rfl,_,_,_,LC,?_⟩;obtain⟨w5,LW,NW,Hx⟩:=jm (P:=P) (w:=w4) jh (by omega) (m:=n) (by omega);refine⟨_,_,_,w5,LW,?_⟩;have Mc:g<w4.heap.size:=JR.lt;have Qk:w1.heap.size<=w4.heap.size:=Nat.le_trans KL.size F8.size;have rd:∀ w6,w5.grownBy w6 (some w4.heap.size)->w6.cell? ⟨w.heap.size,0,none⟩=some (.slice A n c)/\aZ w6 A (aT ls)/\aZ w6 (some ⟨g,0,none⟩) (aT (nI (ez ls))):=by
      intro w6 Hu;refine⟨Hu.cell (Hx.cell LC (by simp)) (by simp;omega),(Uv.kept_none Hx).kept Hu (fun a ha=>by have:=IE a ha;simp;omega),(JR.row.kept_none Hx).kept Hu (fun a ha=>by cases ha;simp;omega)⟩
    refine⟨fun m nx la i w6=>∃ k:Nat,i=(k:Int)/\k<=(ez ls).length/\m=(ez ls).length-k/\nx=(cy ls ((ez ls).take k)).1/\la=(cy ls ((ez ls).take k)).2.1/\cQ w6 w4.heap.size 3 n (aT (cy ls ((ez ls).take k)).2.2)/\w5.grownBy w6 (some w4.heap.size),
      ⟨_,0,rfl,by omega,rfl,rfl,rfl,?_,aC _ _⟩,?_⟩
    · simpa[cy,aT,hn]using NW
    rintro m nx la i w6 ⟨k,rfl,hk,rfl,rfl,rfl,HT,Hu⟩;have tk:(k:Int).toNat=k:=by omega
    rw[tk];obtain⟨q1,q2,q3⟩:=rd w6 Hu;refine⟨fun FP=>?_,fun FU=>?_⟩
    · have lk:k<(ez ls).length:=by omega
      obtain⟨b,Hy,Gf⟩:=q3 k (.int .i64 ((ez ls)[k]:Int)) (by simp[aT,nI,lk]);have LU:ez ls=(ez ls).take k++(ez ls)[k] ::(ez ls).drop (k+1):=by rw[List.getElem_cons_drop,List.take_append_drop]
      obtain⟨c1,c2,c3,c4,c5,c6,c7,c8,c9,c10,c11⟩:=wE hR LU;have GD:(ez ls).take (k+1)=(ez ls).take k++[(ez ls)[k]]:=List.take_succ_eq_append_getElem lk;generalize hs:(ez ls)[k]=s at *;obtain⟨a,Ge,Gb⟩:=q2 s (.int .i64 ls[s]) (by simp[aT,c7]);have IW:ls[s]=ln ls s:=(mc c7).symm;rw[IW]at Gb;have ts:(s:Int).toNat=s:=by omega
      refine⟨b,Hy,by omega,by omega,(s:Int),Gf,?_⟩;rw[ts];have mnx:min (ln ls s-(cy ls ((ez ls).take k)).2.1).toNat 64=(ln ls s-(cy ls ((ez ls).take k)).2.1).toNat:=by omega
      have FV:=HT.cell (j:=s) (u:=.int .i64 ((cy ls ((ez ls).take k)).2.2[s]'(by omega))) (by simp[aT,c10,c7]);refine⟨_,_,_,q1,a,Ge,by omega,by omega,_,Gb,by omega,?_⟩;rw[mnx,c4];refine⟨⟨by omega,by omega⟩,_,_,_,q1,a,Ge,by omega,by omega,_,Gb,_,rfl,by omega,by omega,⟨_,FV⟩,HT.notFrozen (aL _ _),by omega,by omega,(ez ls).length-(k+1),by omega,k+1,by omega,by omega,rfl,?_,?_,?_,bF Hu (aL _ _) _⟩
      · rw[GD,c11]
      · rw[GD,c11]
      · rw[GD,c11];have Gy:=HT.set (j:=s) (by simp[aT,c10,c7]) (.int .i64 (cd ls s));simpa[aT,List.map_set]using Gy
    · have Gi:k=(ez ls).length:=by omega
      subst Gi;rw[List.take_length]at HT;have Ik:(cy ls (ez ls)).2.2=fw ls:=(eI hR).2.symm;rw[Ik]at HT;have FW:w.heap.size<=w4.heap.size:=Nat.le_trans g1.size Qk;have h5:=HT.ownsRow FW (by simp only[maxLen];omega);have:(aT (fw ls)).length=n:=by simp[aT,fv hR,hn]
      rw[this]at h5;refine⟨_,_,_,rfl,h5,?_⟩;have e1:=aN (aA g1 KL) F8 (by intro q hq;cases hq;have:=g1.size;omega);exact aN (aA e1 Hx) Hu (by intro q hq;cases hq;exact FW)
theorem uc {w:World} {A:OA} {n c:Nat} {ls:List Int} (hr:aZ w A (aT ls)) (hn:n=ls.length) (hb:n<=2^20) :
    Calls P 91 #[.slice A n c] w fun ev w'=>∃(A':OA)(n' c':Nat),ev=.returned (.slice A' n' c')/\cP w' w.heap.size 3 A' n' c' (aT (fw ls))/\w.grownBy w' none:=by
  apply vc91;dsimp only[VC91,Wt,Br,Rd,Ix,cB,iq]
  try simp only[aG]
  refine(t9 hr hn).mono fun ev w1 hh=>?_;obtain⟨rfl,g1⟩:=hh;refine⟨_,rfl,fun hf=>?_,fun ht=>?_⟩
  · refine⟨none,0,0,rfl,?_,g1⟩;have:fw ls=[]:=by unfold fw;rw[hf];rfl
    rw[this];exact World.ownsRow_nil _ _ _ _
  have hR:cz ls=true:=by simpa using ht
  obtain⟨IF,HF,_⟩:=er hR;obtain⟨w2,I8,FR,g2⟩:=jm (P:=P) (w:=w1) jh (by omega) (m:=n) (by omega);refine⟨_,_,_,w2,I8,?_⟩;have Hh:0<(ez ls).length:=List.length_pos_iff.2 (ug hR);have IE:∀ a,A=some a->a.block<w1.heap.size:=by
    intro a ha;obtain⟨b,e1,e2⟩:=(hr.kept_none g1).blk (by intro e;have:ls=[]:=(by simpa[aT]using e);rw[this]at Hh;simp[ez,jv,dj]at Hh);rw[ha]at e1;cases e1;exact e2
  have rd:∀ w3,w2.grownBy w3 (some w1.heap.size)->aZ w3 A (aT ls):=fun w3 h3=>((hr.kept_none g1).kept_none g2).kept h3 (fun a ha=>by have:=IE a ha;simp;omega);refine⟨fun m nx la n' w3=>∃ k:Nat,n'=((k+1:Nat):Int)/\k<=15/\m=15-k/\nx=(cy ls (gf ls k)).1/\la=(cy ls (gf ls k)).2.1/\cQ w3 w1.heap.size 3 n (aT (cy ls (gf ls k)).2.2)/\w2.grownBy w3 (some w1.heap.size),
    ⟨_,0,rfl,by omega,rfl,rfl,rfl,by simpa[gf,cy,aT,hn]using FR,aC _ _⟩,?_⟩
  rintro m nx la n' w3 ⟨k,rfl,hk,rfl,rfl,rfl,Gs,Gh⟩;refine⟨fun Ga=>?_,fun GV=>?_⟩
  · have QY :k<15:=by omega
    refine⟨fun m nx la i w4=>∃ s:Nat,i=(s:Int)/\s<=ls.length/\m=ls.length-s/\nx=(cy ls (gf ls k++pe ls s (k+1))).1/\la=(cy ls (gf ls k++pe ls s (k+1))).2.1/\cQ w4 w1.heap.size 3 n (aT (cy ls (gf ls k++pe ls s (k+1))).2.2)/\w2.grownBy w4 (some w1.heap.size),
      ⟨_,0,rfl,by omega,rfl,by simp[pe],by simp[pe],by simpa[pe]using Gs,Gh⟩,?_⟩
    rintro m nx la i w4 ⟨s,rfl,hs,rfl,rfl,rfl,GU,F8⟩;have ts:(s:Int).toNat=s:=by omega
    rw[ts];refine⟨fun FP=>?_,fun FU=>?_⟩
    · have l1:s<ls.length:=by omega
      obtain⟨a,Ge,Gb⟩:=(rd w4 F8) s (.int .i64 ls[s]) (by simp[aT,l1]);have IW:ls[s]=ln ls s:=(mc l1).symm;rw[IW]at Gb;refine⟨a,Ge,by omega,by omega,_,Gb,fun he=>?_,fun FS=>⟨by omega,ls.length-(s+1),by omega,s+1,by omega,by omega,rfl,?_⟩⟩
      · obtain⟨B,hB⟩:=Fy hR QY l1 he;obtain⟨c1,c2,c3,c4,c5,c6,c7,c8,c9,c10,c11⟩:=wE hR hB;have QK:(cy ls (gf ls k++pe ls s (k+1))).1*2^(min (((k+1:Nat):Int)-mx (cy ls (gf ls k++pe ls s (k+1))).2.1 1).toNat 64)=cd ls s:=by
          by_cases h0:(cy ls (gf ls k++pe ls s (k+1))).2.1=0
          · have:=c3 h0;rw[← c4,this];simp
          · have e1:mx (cy ls (gf ls k++pe ls s (k+1))).2.1 1=(cy ls (gf ls k++pe ls s (k+1))).2.1:=by unfold mx;split <;>omega
            rw[e1,← he];have e2:min (ln ls s-(cy ls (gf ls k++pe ls s (k+1))).2.1).toNat 64=(ln ls s-(cy ls (gf ls k++pe ls s (k+1))).2.1).toNat:=by omega
            rw[e2];exact c4
        have SH:mx (cy ls (gf ls k++pe ls s (k+1))).2.1 1<=((k+1:Nat):Int)/\1<=mx (cy ls (gf ls k++pe ls s (k+1))).2.1 1:=by unfold mx;split <;>omega
        rw[QK];have QO:gf ls k++pe ls (s+1) (k+1)=(gf ls k++pe ls s (k+1))++[s]:=by rw[uu,if_pos he];simp
        have FV:=GU.cell (j:=s) (u:=.int .i64 ((cy ls (gf ls k++pe ls s (k+1))).2.2[s]'(by omega))) (by simp[aT,c10,c7]);refine⟨by omega,⟨by omega,by omega⟩,_,rfl,by omega,by omega,⟨_,FV⟩,GU.notFrozen (aL _ _),by omega,by omega,ls.length-(s+1),by omega,s+1,by omega,by omega,rfl,?_,?_,?_,bF F8 (aL _ _) _⟩
        · rw[QO,c11]
        · rw[QO,c11,he]
        · rw[QO,c11];have Gy:=GU.set (j:=s) (by simp[aT,c10,c7]) (.int .i64 (cd ls s));simpa[aT,List.map_set]using Gy
      · rw[uu,if_neg FS,List.append_nil];exact⟨rfl,rfl,GU,F8⟩
    · have PG:s=ls.length:=by omega
      subst PG;refine⟨by omega,15-(k+1),by omega,k+1,by omega,by omega,rfl,?_⟩;rw[lg];exact⟨rfl,rfl,GU,F8⟩
  · have Gi:k=15:=by omega
    subst Gi;rw[← wl hR,← (eI hR).2]at Gs;have h5:=Gs.ownsRow g1.size (by simp only[maxLen];omega);have:(aT (fw ls)).length=n:=by simp[aT,fv hR,hn]
    rw[this]at h5;exact⟨_,_,_,rfl,h5,aN (aA g1 g2) Gh (by intro q hq;cases hq;exact g1.size)⟩
def qY(p:Int×Int):Value:=.agg #[.int .i64 p.1,.int .i64 p.2]
def Dh(x:Int):Prop:=-9223372036854775808<=x/\x<=9223372036854775807
def yz(p:Int×Int):Prop:=Dh p.1/\Dh p.2
theorem vM{x:Int}(h:Dh x):(Lit.int .i64 x).wf=true:=by
 have h1:IntKind.i64.min=-9223372036854775808:=rfl;have h2:IntKind.i64.max=9223372036854775807:=rfl;obtain⟨a,b⟩:=h;simp only[Lit.wf,Bool.and_eq_true,decide_eq_true_eq];omega
theorem FD:WideMaps.ArrKey P 228 3 2:=by
 constructor <;>first | kernel_rfl | decide
theorem keyT:CS P 228 qY yz where
 law:=Maps.Keyed.of_law (deep_law (m:=3) (by omega) (by kernel_rfl) (by kernel_rfl) (by kernel_rfl))
 key:=fun x hx=>⟨_,WideMaps.keyOf_pair FD (by kernel_rfl) ⟨P.types.size-1,by kernel_rfl⟩ (vM hx.1) (vM hx.2)⟩
 inj:=by
  rintro⟨a,b⟩ ⟨c,d⟩ h;simp[qY]at h;simp[h]
def Sym(ls:List Int)(j:Nat)(p:Int×Int)(v:Int):Prop:=∃ s:Nat,s<j/\0<ln ls s/\p=(cd ls s,ln ls s)/\v=(s:Int)
def qu(w:World)(top g:Nat)(ls:List Int):Prop:=∃ (A1:OA) (n1 c1:Nat) (A2:OA) (n2 c2 m:Nat) (L:List ((Int×Int)×Int)),
 w.heap[g]?=some (.cells #[.slice A1 n1 c1,.slice A2 n2 c2,.map (some m)] 226 (0,0))/\aZ w A1 (aT ls)/\n1=ls.length/\aZ w A2 (aT (fw ls))/\n2=ls.length/\dE qY yz (Value.int .i64) w m L ∧
 (∀ p v,dY L p=some v↔Sym ls ls.length p v)/\g<top/\m<top/\(∀ a,A1=some a->a.block<top)/\(∀ a,A2=some a->a.block<top)
theorem qu.kp{w w':World}{S:Nat->Prop}{top g:Nat}{ls:List Int}(h:qu w top g ls)(hk:Kp w w' S)(hS:∀ k,k<top->¬ S k):qu w' top g ls:=by
 obtain⟨A1,n1,c1,A2,n2,c2,m,L,h1,h2,h3,h4,h5,h6,h7,h8,h9,Nk,MM⟩:=h;exact⟨A1,n1,c1,A2,n2,c2,m,L,by rw[hk.block g (Array.getElem?_eq_some_iff.1 h1).1 (hS g h8)];exact h1,h2.kp hk (fun a ha _=>hS _ (Nk a ha)),h3,h4.kp hk (fun a ha _=>hS _ (MM a ha)),h5,h6.kp hk (hS m h9),h7,h8,h9,Nk,MM⟩
theorem wk{w:World}{base:Nat}{e:TypeId}{A:OA}{n c:Nat}{xs:List Value}(h:cP w base e A n c xs):∀ a,A=some a->a.block<w.heap.size:=by
 intro a ha;rcases h.cases.2 with⟨e,_⟩ | ⟨g,e,_,_,_,h⟩
 ·rw[e]at ha;cases ha
 ·rw[e]at ha;cases ha;exact h.lt
theorem wn {w:World} {A:OA} {n c:Nat} {ls:List Int} (hr:aZ w A (aT ls)) (hn:n=ls.length) (hb:n<=2^20) :
    Calls P 112 #[.slice A n c] w fun ev w'=>w.grownBy w' none/\((cz ls=false/\ev=.returned (.tuple #[.pointer none,.bool false])) ∨
      (cz ls=true/\∃ g,ev=.returned (.tuple #[.pointer (some ⟨g,0,none⟩),.bool true])/\qu w' w'.heap.size g ls)):=by
  apply vc112;dsimp only[VC112,rt,Br,Rd,Rs,Ix,cB,cS,nb,iq];refine(rG hr hn hb).mono fun ev w1 hh=>?_;obtain⟨rfl,g1⟩:=hh;refine⟨_,rfl,fun hf=>⟨g1,.inl ⟨hf,rfl⟩⟩,fun ht=>?_⟩;have hR:cz ls=true:=by simpa using ht
  obtain⟨IF,HF,_⟩:=er hR;refine(sW (hr.kept_none g1) hn (by omega)).mono fun ev w2 hh=>?_;obtain⟨A1,n1,c1,rfl,o1,g2⟩:=hh;refine⟨_,_,_,rfl,?_⟩;have HA:=aA g1 g2;refine(zg (hr.kept_none HA) hn hb).mono fun ev w3 hh=>?_;obtain⟨A2,n2,c2,rfl,o2,g3⟩:=hh;refine⟨_,_,_,rfl,?_⟩;have Gu:=aA HA g3;have Ii:n1=ls.length:=by rw[o1.cases.1];simp[aT]
  have IT:n2=ls.length:=by rw[o2.cases.1];simp[aT,fv hR]
  have hm:=World.grownBy_alloc w3 (.map #[] 0) none;have Ou:dE qY yz (Value.int .i64) (w3.alloc (.map #[] 0)) w3.heap.size ([]:List ((Int×Int)×Int)):=dE.made w3;obtain⟨w4,HY⟩:∃ w4,w4=w3.alloc (.map #[] 0):=⟨_,rfl⟩;rw[← HY]at hm Ou ⊢;have Gg:w4.heap.size=w3.heap.size+1:=by rw[HY];simp
  have Hx:=World.grownBy_alloc w4 (.cells #[.slice A1 n1 c1,.slice A2 n2 c2,.map (some w3.heap.size)] 226) none;have Rw:=heap_alloc_new w4 (.cells #[.slice A1 n1 c1,.slice A2 n2 c2,.map (some w3.heap.size)] 226);have Lu:=Ou.kept Hx;obtain⟨w5,MP⟩:∃ w5,w5=w4.alloc (.cells #[.slice A1 n1 c1,.slice A2 n2 c2,.map (some w3.heap.size)] 226):=⟨_,rfl⟩;rw[← MP]at Hx Rw Lu ⊢;have It:w5.heap.size=w4.heap.size+1:=by rw[MP];simp
  have Kj:=aA hm Hx;have LW:=(hr.kept_none Gu).kept_none Kj;have r1:=(o1.row.kept_none g3).kept_none Kj;have r2:=o2.row.kept_none Kj;have b1:∀ a,A1=some a->a.block<w3.heap.size:=fun a ha=>Nat.lt_of_lt_of_le (wk o1 a ha) g3.size;have b2:∀ a,A2=some a->a.block<w3.heap.size:=fun a ha=>wk o2 a ha;have Hh:0<(ez ls).length:=List.length_pos_iff.2 (ug hR);have bA:∀ a,A=some a->a.block<w3.heap.size:=by
    intro a ha;obtain⟨b,e1,e2⟩:=(hr.kept_none Gu).blk (by intro e;have:ls=[]:=(by simpa[aT]using e);rw[this]at Hh;simp[ez,jv,dj]at Hh);rw[ha]at e1;cases e1;exact e2
  simp only[aG];refine⟨fun q i w6=>∃ (j:Nat) (L:List ((Int×Int)×Int)),i=(j:Int)/\j<=ls.length/\q=ls.length-j/\dE qY yz (Value.int .i64) w6 w3.heap.size L/\(∀ p v,dY L p=some v↔Sym ls j p v)/\w5.grownBy w6 (some w3.heap.size),
    ⟨_,0,[],rfl,by omega,rfl,Lu,by intro p v;simp[dY,Sym],aC _ _⟩,?_⟩
  rintro q i w6 ⟨j,L,rfl,hj,rfl,hL,GQ,Hu⟩;have tj:(j:Int).toNat=j:=by omega
  rw[tj];have Rv:w6.heap[w4.heap.size]?=some (.cells #[.slice A1 n1 c1,.slice A2 n2 c2,.map (some w3.heap.size)] 226 (0,0)):=by
    rw[Hu.block w4.heap.size (Array.getElem?_eq_some_iff.1 Rw).1 (by simp;omega)];exact Rw
  refine⟨fun FP=>?_,fun FU=>?_⟩
  · have l1:j<ls.length:=by omega
    obtain⟨a,Ge,Gb⟩:=(LW.kept Hu (fun a ha=>by have:=bA a ha;simp;omega)) j (.int .i64 ls[j]) (by simp[aT,l1]);have I9:ls[j]=ln ls j:=(mc l1).symm;rw[I9]at Gb;refine⟨a,Ge,by omega,by omega,_,Gb,fun hp=>?_,fun hp=>⟨by omega,ls.length-(j+1),by omega,j+1,L,by omega,by omega,rfl,hL,?_,Hu⟩⟩
    · have S9:w6.drew.heap[w4.heap.size]?=some (.cells #[.slice A1 n1 c1,.slice A2 n2 c2,.map (some w3.heap.size)] 226 (0,0)):=Rv;have Ik:=fv hR;have r26:aZ w6.drew A2 (aT (fw ls)):=r2.kept (aI Hu) (fun a ha=>by have:=b2 a ha;simp;omega);obtain⟨b,Hy,Gf⟩:=r26 j (.int .i64 (cd ls j)) (by simp[aT,cd,Ik,l1,List.getD_eq_getElem?_getD]);have Xw:=zj hR ⟨l1,by omega⟩;have GM:=lC hR j;have NO:=HF j;have NV:(2:Int)^(ln ls j).toNat<=2^15:=by
        have e1:((2^(ln ls j).toNat:Nat):Int)=2^(ln ls j).toNat:=by simp
        have:=Nat.pow_le_pow_right (n:=2) (by omega) (show(ln ls j).toNat<=15 by omega);omega
      have Wu:dE qY yz (Value.int .i64) w6.drew w3.heap.size L:=hL;obtain⟨w7,e1,e2,e3⟩:=Wu.update (mt:=224) (et:=3) keyT (by kernel_rfl) (k:=(cd ls j,ln ls j)) ⟨⟨by show _<=cd ls j;omega,by show cd ls j<=_;omega⟩,⟨by show _<=ln ls j;omega,by show ln ls j<=_;omega⟩⟩ (j:Int);refine⟨_,rfl,_,by rw[aP];exact aB S9 2,_,rfl,_,_,_,by rw[aP];exact aB S9 1,b,Hy,by omega,by omega,_,Gf,w7,e1,by omega,ls.length-(j+1),by omega,j+1,jj L (cd ls j,ln ls j) (j:Int),by omega,by omega,rfl,e2,?_,aA (aI Hu) e3⟩;intro p v;rw[uN];by_cases e:(cd ls j,ln ls j)=p
      · rw[if_pos e];constructor
        · intro h;cases h;exact⟨j,by omega,by omega,e.symm,rfl⟩
        · rintro⟨s,s1,s2,s3,rfl⟩;rw[s3]at e;simp only[Prod.mk.injEq]at e;have:=DM hR ⟨l1,by omega⟩ ⟨show s<ls.length by omega,s2⟩ e.2 e.1;rw[this]
      · rw[if_neg e,GQ];constructor
        · rintro⟨s,s1,r⟩;exact⟨s,by omega,r⟩
        · rintro⟨s,s1,s2,s3,s4⟩;refine⟨s,?_,s2,s3,s4⟩;by_cases h:s=j
          · subst h;exact absurd s3.symm e
          · omega
    · intro p v;rw[GQ];constructor
      · rintro⟨s,s1,r⟩;exact⟨s,by omega,r⟩
      · rintro⟨s,s1,s2,s3,s4⟩;refine⟨s,?_,s2,s3,s4⟩;by_cases h:s=j
        · subst h;omega
        · omega
  · have G2:j=ls.length:=by omega
    subst G2;refine⟨aN (aA Gu Kj) Hu (by intro k hk;cases hk;exact Gu.size),.inr ⟨hR,w4.heap.size,rfl,A1,n1,c1,A2,n2,c2,w3.heap.size,L,Rv,?_,Ii,?_,IT,hL,GQ,?_,hL.lt,?_,?_⟩⟩
    · exact r1.kept Hu (fun a ha=>by have:=b1 a ha;simp;omega)
    · exact r2.kept Hu (fun a ha=>by have:=b2 a ha;simp;omega)
    · exact(Array.getElem?_eq_some_iff.1 Rv).1
    · intro a ha;have:=b1 a ha;have:=Hu.size;omega
    · intro a ha;have:=b2 a ha;have:=Hu.size;omega
theorem AT{ls:List Int}(h:cz ls=true){s:Nat}(hs:s<ls.length)(h0:ln ls s≠0):0<ln ls s/\ln ls s<=15/\0<=cd ls s/\cd ls s<=32767:=by
 obtain⟨_,HF,_⟩:=er h;have hb:=HF s;have hc:=zj h ⟨hs,by omega⟩;have NV:(2:Int)^(ln ls s).toNat<=2^15:=by
  have e1:((2^(ln ls s).toNat:Nat):Int)=2^(ln ls s).toNat:=by simp
  have:=Nat.pow_le_pow_right (n:=2) (by omega) (show(ln ls s).toNat<=15 by omega);omega
 exact⟨by omega,hb.2,lC h s,by omega⟩
theorem BW{ls:List Int}{s:Int}(h:iv ls s=false)(bits:List Bool):bits++kB ls s=bits:=by simp[kB,h]
theorem wV{w:World}{top base g gw:Nat}{ls:List Int}{bits:List Bool}{s:Int}(hT:qu w top g ls)(hR:cz ls=true)(hW:Wr w base gw bits)(hl:bits.length<=2^30)(FW:base<=w.heap.size):
    Calls P 113 #[.pointer (some ⟨g,0,none⟩),.pointer (some ⟨gw,0,none⟩),.int .i64 s] w fun ev w'=>ev=.returned (.bool (iv ls s))/\Wr w' base gw (bits++kB ls s)/\Kp w w' (vl w base [214,5]):=by
  obtain⟨A1,n1,c1,A2,n2,c2,m,L,hb,r1,Ii,r2,IT,_⟩:=hT;apply vc113;dsimp only[VC113,rb,Br,Rd,Rs,Ix,cU,iq];have c0:w.cell? ⟨g,0,none⟩=some (.slice A1 n1 c1):=aB hb 0;have GA:w.drew.heap[g]?=some (.cells #[.slice A1 n1 c1,.slice A2 n2 c2,.map (some m)] 226 (0,0)):=hb;have no:iv ls s=false->Wr w base gw (bits++kB ls s)/\Kp w w (vl w base [214,5]):=fun h=>by
    rw[BW h];exact⟨hW,Kp.refl _ _⟩
  refine⟨fun h=>(by cases h),fun _=>⟨fun h=>?_,fun h0=>⟨_,rfl,_,_,_,c0,fun h=>?_,fun h1=>⟨_,rfl,_,_,_,c0,?_⟩⟩⟩⟩
  · have:iv ls s=false:=by simp[iv];omega
    rw[this];exact⟨rfl,by simpa[this]using no this⟩
  · have:iv ls s=false:=by simp[iv];omega
    rw[this];exact⟨rfl,by simpa[this]using no this⟩
  · obtain⟨k,rfl⟩:∃ k:Nat,s=k:=⟨s.toNat,by omega⟩;have tk:(k:Int).toNat=k:=by omega
    have lk:k<ls.length:=by omega
    obtain⟨a,Ge,Gb⟩:=r1 k (.int .i64 ls[k]) (by simp[aT,lk]);rw[show ls[k]=ln ls k from(mc lk).symm]at Gb;rw[tk];refine⟨a,Ge,by omega,by omega,_,Gb,fun hz=>?_,fun hz=>?_⟩
    · have:iv ls (k:Int)=false:=by simp[iv,hz]
      rw[this];exact⟨rfl,by simpa[this]using no this⟩
    · have hv:iv ls (k:Int)=true:=by simp[iv,lk,hz]
      obtain⟨b1,b2,b3,b4⟩:=AT hR lk hz;have Ik:=fv hR;obtain⟨b,Hy,Gf⟩:=r2 k (.int .i64 (cd ls k)) (by simp[aT,cd,Ik,lk,List.getD_eq_getElem?_getD]);refine⟨_,rfl,_,_,_,by rw[aP];exact aB GA 1,b,Hy,by omega,by omega,_,Gf,⟨by omega,by omega⟩,_,rfl,_,_,_,c0,a,Ge,by omega,by omega,_,Gb,?_⟩;obtain⟨q,hq⟩:∃ q:Nat,ln ls k=(q:Int):=⟨(ln ls k).toNat,by omega⟩;rw[hq];have Wd:Wr w.drew base gw bits:=hW.kept (aI (aC w none));refine(nN Wd (v:=cd ls k) (n:=q) (by omega) (by omega) hl FW).mono fun ev w2 hh=>?_;obtain⟨rfl,h2,h3⟩:=hh;refine⟨rfl,by rw[hv],?_,⟨h3.os,h3.tape,h3.output,h3.size,h3.block⟩⟩;have:kB ls (k:Int)=cK (cd ls k) q:=by simp[kB,hv,hq]
      rw[this];exact h2
theorem FA{v b:Int}(h0:0<=v/\v<=100000)(hb:0<=b/\b<=1):dD .or .i64 (v*2^1) b=2*v+b:=by
 obtain⟨n,rfl⟩:∃ n:Nat,v=n:=⟨v.toNat,by omega⟩;obtain⟨m,rfl⟩:∃ n:Nat,b=n:=⟨b.toNat,by omega⟩;have em:(n:Int)*2^1=((n*2^1:Nat):Int):=by simp
 rw[em];have e1:(BitVec.ofInt 64 ((n*2^1:Nat):Int)).toNat=n*2^1:=di (by omega);have e2:(BitVec.ofInt 64 (m:Int)).toNat=m:=di (by omega);show IntKind.i64.wrap (((BitVec.ofInt 64 ((n*2^1:Nat):Int) ||| BitVec.ofInt 64 (m:Int)).toNat:Nat):Int)=_;rw[BitVec.toNat_or,e1,e2,Nat.or_comm,xi (by omega)];have hz:aG .i64 (((m+n*2^1:Nat)):Int):=by
  show(-9223372036854775808:Int)<=_/\_<=(9223372036854775807:Int);omega
 rw[eS hz];omega
theorem q7{l:List Int}{at_:Nat}(h:at_+1<=8*l.length):(aX l).drop at_=fb l at_ ::(aX l).drop (at_+1):=by
 have hl:=eo l;rw[List.drop_eq_getElem_cons (by omega)];congr 1;simp[aX]
theorem qH{l:List Int}{at_:Nat}(h:at_+1<=8*l.length):ki (((aX l).drop at_).take 1)=fy (fb l at_):=by
 rw[q7 h];simp[ki]
def kL(ls:List Int)(l:List Int)(at_:Nat):Value×Nat:=match jz ls 15 0 0 ((aX l).drop at_)with
 | some (s,k)=>(.tuple #[.int .i64 (s:Int),.bool true],at_+k)
 | none=>(.tuple #[.int .i64 0,.bool false],at_)
theorem CU(w:World):Sem.run P (zeroValue 3) w=.ok (.int .i64 0) w:=by
 obtain⟨i,h1,h2,h3,h4,h5,h6⟩:=jh.ex;simp[zeroValue,typeInfo,program,Sem.run,h2,h3]
theorem lay2{w:World}{g:Nat}{x y u v:Value}{t:TypeId}(h:w.heap[g]?=some (.cells #[x,y] t (0,0))):
    (∃ z,w.cell? ⟨g,0,none⟩=some z)/\w.frozen? ⟨g,0,none⟩=false/\(∃ z,(w.setCell ⟨g,0,none⟩ u).cell? ⟨g,1,none⟩=some z)/\(w.setCell ⟨g,0,none⟩ u).frozen? ⟨g,1,none⟩=false ∧
    ((w.setCell ⟨g,0,none⟩ u).setCell ⟨g,1,none⟩ v).heap[g]?=some (.cells #[u,v] t (0,0)):=by
  have h1:=aH h 0 u;have h2:=aH h1 1 v;exact⟨⟨x,aB h 0⟩,aD h 0,⟨y,aB h1 1⟩,aD h1 1,h2⟩
theorem B9{ls:List Int}(hR:cz ls=true){L:List ((Int×Int)×Int)}(GQ:∀ p v,dY L p=some v↔Sym ls ls.length p v){n:Nat}(hn:0<n)(v:Int):dY L (v,(n:Int))=(iL ls n v).map fun s:Nat=>(s:Int):=by
 cases e:iL ls n v with
 | some s =>
  obtain⟨h1,h2,h3⟩:=(jH hR hn).1 e;exact(GQ _ _).2 ⟨s,h1,by omega,by rw[h2,h3],rfl⟩
 | none =>
  cases e2:dY L (v,(n:Int))with
  | none=>rfl
  | some u =>
   obtain⟨s,h1,h2,h3,h4⟩:=(GQ _ _).1 e2;simp only[Prod.mk.injEq]at h3;have:=(jH hR hn).2 ⟨h1,h3.2.symm,h3.1.symm⟩;rw[e]at this;cases this
theorem vo {w:World} {top gt g:Nat} {A:OA} {n c:Nat} {l:List Int} {at_:Nat} {ls:List Int} (hT:qu w top gt ls) (Uk:top<=g) (h:jt w g A n c l at_) (hl:l.length<=2^40) (hb:∀ x∈l,0<=x/\x<=255) (hR:cz ls=true) :
    Calls P 163 #[.pointer (some ⟨gt,0,none⟩),.pointer (some ⟨g,0,none⟩)] w fun ev w'=>ev=.returned (kL ls l at_).1/\jt w' g A n c l (kL ls l at_).2/\Kp w w' (fun k=>k=g):=by
  apply vc163;dsimp only[VC163,rt,Wt,Br,Bb,Rd,Rs,Ws,nb,iq]
  try simp only[aG]
  have Mc:g<w.heap.size:=(Array.getElem?_eq_some_iff.1 h.blk).1;have JW:=heap_alloc_new w (.cells #[.slice none 0 0,.int .i64 0] 240);obtain⟨k1,k2,k3,k4,k5⟩:=lay2 (u:=.slice A n c) (v:=.int .i64 (at_:Int)) JW;refine⟨fun h=>(by simp at h),fun _=>⟨_,rfl,_,_,_,aB h.blk 0,_,by rw[aP];exact aB h.blk 1,k1,k2,k3,k4,?_⟩⟩;have Jq:Kp w (((w.alloc (.cells #[.slice none 0 0,.int .i64 0] 240)).setCell ⟨w.heap.size,0,none⟩ (.slice A n c)).setCell ⟨w.heap.size,1,none⟩ (.int .i64 (at_:Int))) (fun k=>k=g) :=
    (((Kp.refl w (fun k=>k=g)).alloc _).set (.inl (Nat.le_refl _)) _).set (.inl (Nat.le_refl _)) _
  obtain⟨w0,HZ⟩:∃ w0,w0=((w.alloc (.cells #[.slice none 0 0,.int .i64 0] 240)).setCell ⟨w.heap.size,0,none⟩ (.slice A n c)).setCell ⟨w.heap.size,1,none⟩ (.int .i64 (at_:Int)):=⟨_,rfl⟩;rw[← HZ]at k5 Jq ⊢;have Qy:jt w0 g A n c l at_:=by
    have L7:Kp w w0 (fun _=>False):=by
      rw[HZ];exact(((Kp.refl w (fun _=>False)).alloc _).set (.inl (Nat.le_refl _)) _).set (.inl (Nat.le_refl _)) _
    exact h.kp L7 (fun h=>h) (fun _ _=>.inr (fun h=>h))
  have Gn:∀ {α:Prop},α->α:=fun h=>h
  -- what is kept of the copy and of the table
  have keep:∀ w1,Kp w0 w1 (fun k=>k=g)->w1.heap[w.heap.size]?=some (.cells #[.slice A n c,.int .i64 (at_:Int)] 240 (0,0)):=by
    intro w1 h1;rw[h1.block w.heap.size (Array.getElem?_eq_some_iff.1 k5).1 (by omega)];exact k5
  have tab:∀ w1,Kp w w1 (fun k=>k=g)->qu w1 top gt ls:=fun w1 h1=>hT.kp h1 (fun k hk e=>by omega)
  have back:∀(w2:World)(j:Nat),jt w2 g A n c l (at_+j)->Kp w0 w2 (fun k=>k=g)->jz ls 15 0 0 ((aX l).drop at_)=none->∃(x49A:OA)(x49n x49c:Nat),w2.cell? ⟨w.heap.size,0,none⟩=some (.slice x49A x49n x49c)/\(∃ x49:Int,w2.cell? ⟨w.heap.size,1,none⟩=some (.int .i64 x49)/\(∃ a50:Addr,(some ⟨g,0,none⟩:OA)=some a50/\((∃ u:Value,w2.cell? a50=some u)/\w2.frozen? a50=false/\((∃ u:Value,(w2.setCell a50 (.slice x49A x49n x49c)).cell? (a50.add 1)=some u)/\(w2.setCell a50 (.slice x49A x49n x49c)).frozen? (a50.add 1)=false ∧
      (Ending.returned (.tuple #[.int .i64 0,.bool false])=.returned (kL ls l at_).1/\jt ((w2.setCell a50 (.slice x49A x49n x49c)).setCell (a50.add 1) (.int .i64 x49)) g A n c l (kL ls l at_).2/\Kp w ((w2.setCell a50 (.slice x49A x49n x49c)).setCell (a50.add 1) (.int .i64 x49)) (fun k=>k=g)))))):=by
    intro w2 j h2 hk ht;have Td:=keep w2 hk;obtain⟨q1,q2,q3,q4,q5⟩:=lay2 (u:=.slice A n c) (v:=.int .i64 (at_:Int)) h2.blk;refine⟨_,_,_,aB Td 0,_,aB Td 1,_,rfl,q1,q2,?_⟩;rw[aP];refine⟨q3,q4,?_,?_,((Jq.trans hk).set (.inr rfl) _).set (.inr rfl) _⟩
    · simp[kL,ht]
    · refine⟨by simpa[kL,ht]using q5,?_,h2.len,by simp only[kL,ht];exact h.le,h2.ne⟩;exact h2.row.kpE (S:=fun q=>q=g) (((Kp.refl w2 (fun q=>q=g)).set (.inr rfl) _).set (.inr rfl) _) (fun a ha=>(h2.ne a ha).imp (fun e=>by rw[e];rfl) id)
  refine⟨fun q v n' w1=>∃ j:Nat,n'=(j:Int)/\j<=15/\q=15-j/\0<=v/\v<2^j/\at_+j<=8*l.length/\jz ls 15 0 0 ((aX l).drop at_)=jz ls (15-j) j v ((aX l).drop (at_+j))/\jt w1 g A n c l (at_+j)/\Kp w0 w1 (fun k=>k=g),
    ⟨_,0,rfl,by omega,rfl,by omega,by simp,h.le,rfl,Qy,Kp.refl _ _⟩,?_⟩
  rintro q v n' w1 ⟨j,rfl,hj,rfl,Kz,Kn,Ga,GD,HN,HR⟩;have NV:(2:Int)^j<=2^15:=by
    have e1:((2^j:Nat):Int)=2^j:=by simp
    have:=Nat.pow_le_pow_right (n:=2) (by omega) hj;omega
  refine⟨fun FP=>?_,fun FU=>?_⟩
  · obtain⟨r,hr⟩:∃ r,15-j=r+1:=⟨15-j-1,by omega⟩;rw[hr]at GD;refine(lK (k:=1) HN hl hb (by omega)).mono fun ev w2 hh=>?_;obtain⟨k2,hh | hh⟩:=hh
    · obtain⟨G9,rfl,I8⟩:=hh;refine⟨_,_,rfl,fun h=>(by cases h),fun _=>?_⟩;rw[qH G9];have Jv:=fS (fb l (at_+j));rw[FA ⟨Kz,by omega⟩ Jv];have L8:=HR.trans k2;rw[q7 G9]at GD;have Qh:jz ls (r+1) j v (fb l (at_+j) ::(aX l).drop (at_+j+1))=match iL ls (j+1) (2*v+fy (fb l (at_+j)))with
        | some s=>some (s,j+1)
        | none=>jz ls r (j+1) (2*v+fy (fb l (at_+j))) ((aX l).drop (at_+j+1)):=rfl
      rw[Qh]at GD;obtain⟨A1,n1,c1,A2,n2,c2,m,L,VS,_,_,_,_,hL,GQ,_⟩:=tab w2 (Jq.trans L8);have Ox:=hL.look (mt:=224) (et:=3) keyT (by kernel_rfl) (CU w2) (k:=(2*v+fy (fb l (at_+j)),(j:Int)+1)) ⟨⟨by show _<=2*v+_;omega,by show 2*v+_<=_;omega⟩,⟨by show _<=(j:Int)+1;omega,by show(j:Int)+1<=_;omega⟩⟩ true;have SR:=B9 hR GQ (n:=j+1) (by omega) (2*v+fy (fb l (at_+j)));rw[show((j+1:Nat):Int)=(j:Int)+1 by omega]at SR;rw[SR]at Ox;refine⟨⟨by omega,by omega,by omega⟩,by omega,_,rfl,_,by rw[aP];exact aB VS 2,by omega,?_⟩;cases hf:iL ls (j+1) (2*v+fy (fb l (at_+j)))with
      | some t =>
        rw[hf]at Ox GD;refine⟨(t:Int),true,Ox,fun _=>?_,fun h=>(by cases h)⟩;have Wi:kL ls l at_=(.tuple #[.int .i64 (t:Int),.bool true],at_+(j+1)):=by simp[kL,GD]
        rw[Wi];exact⟨rfl,I8,Jq.trans L8⟩
      | none =>
        rw[hf]at Ox GD;refine⟨0,false,Ox,fun h=>(by cases h),fun _=>?_⟩;have Li:2*v+fy (fb l (at_+j))<2^(j+1):=by rw[pow_succ'];omega
        refine⟨by omega,15-(j+1),by omega,j+1,by omega,by omega,rfl,by omega,Li,G9,?_,I8,L8⟩;rw[GD,show 15-(j+1)=r by omega];rfl
    · obtain⟨Hm,rfl,I8⟩:=hh;refine⟨_,_,rfl,fun _=>?_,fun h=>absurd rfl h⟩;refine back w2 j I8 (HR.trans k2) ?_;rw[GD];have:(aX l).drop (at_+j)=[]:=List.drop_eq_nil_of_le (by rw[eo];omega);rw[this];rfl
  · have G2:j=15:=by omega
    subst G2;refine back w1 15 HN HR ?_;rw[GD];rfl
end Go.Proofs.YtlieaecnllkefaaGreat

/- Own texts, packed: F1, F2, F3, F4, F5, F6. -/
import Derived.Test.YtlieaecnllkefaaGreatGBg
import Derived.Test.YtlieaecnllkefaaGreatGFg
import Derived.Test.YtlieaecnllkefaaGreatGXg
import Derived.Test.YtlieaecnllkefaaGreatGEg
import Derived.Test.YtlieaecnllkefaaGreatGCg
import Derived.Test.YtlieaecnllkefaaGreatGGg
namespace Go.Proofs.YtlieaecnllkefaaGreat
open Go Go.V Go.RowKit
set_option linter.unusedVariables false
set_option linter.unusedSimpArgs false
set_option maxHeartbeats 4000000
set_option maxRecDepth 100000
theorem qgo{w:World}{A:Option Addr}{n c:Nat}{xs:List Int}{v:Int}(hr:Row w A (dy xs))(hn:n=xs.length)(hb:n<=2^40):
    Calls P 189 #[.slice A n c,.int .i64 v] w fun ev w'=>∃ i:Int,ev=.returned (.int .i64 i)/\(0<=i↔v∈xs)/\w.grownBy w' none:=by
  apply vc189;dsimp only[VC189,Wt,Br,Bb,Rd,Rc,Rs,Ix,rI_,rB_,rS_]
  try simp only[InK]
  refine⟨fun m i w'=>∃ j:Nat,i=(j:Int)/\j<=xs.length/\m=xs.length-j/\v ∉ xs.take j/\w.grownBy w' none,⟨_,0,rfl,by omega,rfl,by simp,af _ _⟩,?_⟩
  rintro m i w' ⟨j,rfl,hj,rfl,hv,hg⟩
  refine⟨fun hlt=>?_,fun hge=>?_⟩
  · have l1:j<xs.length:=by omega
    obtain⟨a,ha1,ha2⟩:=(hr.kept_none hg) j (.int .i64 xs[j]) (by simp[dy,l1])
    refine⟨a,ha1,by omega,by omega,_,ha2,fun he=>⟨_,rfl,?_,hg⟩,fun hne=>⟨by omega,xs.length-(j+1),by omega,j+1,by omega,by omega,rfl,?_,hg⟩⟩
    · rw[he]
      exact⟨fun _=>List.getElem_mem l1,fun _=>by omega⟩
    · rw[List.take_succ_eq_append_getElem l1]
      simp only[List.mem_append,List.mem_singleton,not_or]
      exact⟨hv,hne⟩
  · have:j=xs.length:=by omega
    subst this
    rw[List.take_length]at hv
    exact⟨_,rfl,⟨fun h=>by omega,fun h=>absurd h hv⟩,hg⟩
theorem qbf{w:World}{A:Option Addr}{n c:Nat}{xs:List Int}{v:Int}(hr:Row w A (dy xs))(hn:n=xs.length)(hb:n<=2^40):
    Calls P 180 #[.slice A n c,.int .i64 v] w fun ev w'=>ev=.returned (.bool (xs.contains v))/\w.grownBy w' none:=by
  apply vc180;dsimp only[VC180,Wt,Br,Bb,Rd,Rc,Rs,Ix,rI_,rB_,rS_]
  refine(qgo hr hn hb).mono fun ev w' hh=>?_
  obtain⟨i,rfl,hi,hg⟩:=hh
  refine⟨i,rfl,?_,hg⟩
  congr 2
  rw[Bool.eq_iff_iff,decide_eq_true_iff,List.contains_iff_mem]
  exact hi
theorem qaw{w:World}{A:Option Addr}{n c:Nat}{l:List Int}(hr:Row w A (dy l))(hn:n=l.length)(hl:l.length<=2^40):
    Calls P 156 #[.slice A n c] w fun ev w'=>∃(A':Option Addr)(n' c':Nat),ev=.returned (.slice A' n' c')/\eo w' w.heap.size 3 A' n' c' (dy l)/\w.grownBy w' none:=by
  apply vc156;dsimp only[VC156,Wt,Br,Bb,Rd,Rc,Rs,Ix,rI_,rB_,rS_]
  refine⟨fun h=>?_,fun h=>?_⟩
  · subst h
    have:l=[]:=by
      cases l with
      | nil=>rfl
      | cons x l=>obtain⟨a,e,_⟩:=hr 0 _ rfl;cases e
    subst this
    exact⟨none,0,0,rfl,World.ownsRow_nil _ _ _ _,af _ _⟩
  · obtain⟨a,rfl⟩:∃ a,A=some a:=by cases A with
      | none=>exact absurd rfl h
      | some a=>exact⟨a,rfl⟩
    have hg:=World.grownBy_alloc w (.cells #[] 3) none
    have ho:eo (w.alloc (.cells #[] 3)) w.heap.size 3 (some ⟨w.heap.size,0,none⟩) 0 0 []:=⟨rfl,.inr ⟨w.heap.size,0,#[],rfl,Nat.le_refl _,heap_alloc_new w _,Nat.le_refl _,Nat.zero_le _,rfl,rfl⟩⟩
    obtain⟨A',n',c',w',h1,h2,h4⟩:=ho.appends (ty:=33) tu (by omega) (a:=a) (m:=n) (cc:=c) (us:=dy l) (by simp[hn]) (fun j u hj=>by obtain⟨b,e1,e2⟩:=(hr.kept_none hg) j u hj;cases e1;exact e2) (fun u hu=>by obtain⟨x,_,rfl⟩:=List.mem_map.1 hu;rfl) (by omega) hg.size
    exact⟨A',n',c',w',h1,A',n',c',rfl,by simpa using h2,ax hg h4 ho.block_ge⟩
theorem zy {w:World} {A:Option Addr} {n c:Nat} {ls:List Int} (hr:Row w A (dy ls)) (hn:n=ls.length) (hb:n<=2^20) :
    Calls P 155 #[.slice A n c] w fun ev w'=>ev=.returned (.bool (cl ls))/\w.grownBy w' none:=by
  apply vc155;dsimp only[VC155,Wt,Br,Bb,Rd,Rc,Rs,Ix,rI_,rB_,rS_]
  try simp only[InK]
  refine⟨fun m s i w'=>∃ j:Nat,i=(j:Int)/\j<=ls.length/\m=ls.length-j/\(∀ x∈ls.take j,0<=x/\x<=15)/\s=(jf (ls.take j):Int)/\w.grownBy w' none,⟨_,0,rfl,by omega,rfl,by simp,by simp[jf],af _ _⟩,?_⟩
  rintro m s i w' ⟨j,rfl,hj,rfl,hall,rfl,hg⟩
  have hpl:=wl (ls.take j)
  have hlj:(ls.take j).length=j:=by simp;omega
  refine⟨fun hlt=>?_,fun hge=>?_⟩
  · have l1:j<ls.length:=by omega
    obtain⟨a,ha1,ha2⟩:=(hr.kept_none hg) j (.int .i64 ls[j]) (by simp[dy,l1])
    refine⟨a,ha1,by omega,by omega,_,ha2,fun h=>⟨by rw[qbu (List.getElem_mem l1) (.inl h)],hg⟩,fun h=>⟨fun h'=>⟨by rw[qbu (List.getElem_mem l1) (.inr (by omega))],hg⟩,fun h'=>?_⟩⟩
    have hmn:mn ls[j] 1=if 0<ls[j] then 1 else 0:=by unfold mn;split <;>split <;>omega
    have hst:(jf (ls.take j):Int)+mn ls[j] 1=(jf (ls.take (j+1)):Int):=by
      rw[List.take_succ_eq_append_getElem l1,qlo,hmn]
      split <;>simp
    have hb1:0<=mn ls[j] 1/\mn ls[j] 1<=1:=by rw[hmn];split <;>omega
    refine⟨by omega,by omega,ls.length-(j+1),by omega,j+1,by omega,by omega,rfl,?_,hst,hg⟩
    intro x hx
    rw[List.take_succ_eq_append_getElem l1]at hx
    rcases List.mem_append.1 hx with e | e
    · exact hall x e
    · have:x=ls[j]:=by simpa using e
      omega
  · have:j=ls.length:=by omega
    subst this
    rw[List.take_length]at hall hpl ⊢
    have hR:=qjd hall
    refine⟨fun h1=>?_,fun h1=>⟨fun h2=>?_,fun h2=>?_⟩⟩
    · have hp1:jf ls=1:=by omega
      refine(qbf (hr.kept_none hg) hn (by omega)).mono fun ev w2 hh=>?_
      obtain⟨rfl,g2⟩:=hh
      have hg2:=ab hg g2
      rw[qp9 hp1]
      refine⟨_,rfl,fun h2=>⟨fun h3=>⟨?_,hg2⟩,fun h3=>?_⟩,fun h2=>⟨?_,hg2⟩⟩
      · rw[hR,h3];simp[hp1];omega
      · refine(qaj (hr.kept_none hg2) hn (by omega)).mono fun ev w3 hh=>?_
        obtain⟨rfl,g3⟩:=hh
        refine⟨_,rfl,?_,ab hg2 g3⟩
        rw[hR,h3]
        have:ls.length<=256:=by omega
        simp[this]
      · rw[hR]
        have:¬ ls.length<=256:=by omega
        simp[this]
    · refine(qaj (hr.kept_none hg) hn (by omega)).mono fun ev w3 hh=>?_
      obtain⟨rfl,g3⟩:=hh
      refine⟨_,rfl,?_,ab hg g3⟩
      have:ls.length<=256:=by omega
      have hp1:¬ jf ls=1:=by omega
      rw[hR]
      simp[this,hp1]
    · refine⟨?_,hg⟩
      have:¬ ls.length<=256:=by omega
      rw[hR]
      simp[this]
abbrev nI(l:List Nat):List Int:=l.map fun s:Nat=>(s:Int)
theorem qoj{w:World}{g:Nat}{lenv:Addr}{A:Option Addr}{n c:Nat}{ls:List Int}(hcell:w.cell? lenv=some (.slice A n c))(hr:Row w A (dy ls))(hn:n=ls.length)(h1:lenv.block≠g)(h2:∀ a,A=some a->a.block≠g){L:List Nat}(hL:∀ s∈L,s<ls.length):
    qg lenv w g (fun x=>ln ls x.toNat) (nI L):=by
  intro w' hg x hx y hy
  obtain⟨s,hs,rfl⟩:=List.mem_map.1 hx
  obtain⟨t,ht,rfl⟩:=List.mem_map.1 hy
  have ls':=hL s hs
  have lt':=hL t ht
  have hc':w'.drew.cell? lenv=some (.slice A n c):=hg.cell hcell (by simpa using h1)
  have hr':Row w'.drew A (dy ls):=hr.kept (aj hg) (fun a ha=>by simpa using h2 a ha)
  show Calls P 183 #[.int .i64 (s:Int),.int .i64 (t:Int),.pointer (some lenv)] w' _
  apply vc183;dsimp only[VC183,Wt,Br,Bb,Rd,Rc,Rs,Ix,rI_,rB_,rS_]
  obtain⟨a,ha1,ha2⟩:=hr' s (.int .i64 ls[s]) (by simp[dy,ls'])
  obtain⟨b,hb1,hb2⟩:=hr' t (.int .i64 ls[t]) (by simp[dy,lt'])
  have ts:(s:Int).toNat=s:=by omega
  have tt:(t:Int).toNat=t:=by omega
  rw[ts,tt]
  refine⟨_,_,_,hc',a,ha1,by omega,by omega,_,ha2,_,_,_,hc',b,hb1,by omega,by omega,_,hb2,?_⟩
  refine vi.mono fun ev w2 hh=>?_
  obtain⟨c,h3,h4,rfl⟩:=hh
  refine⟨c,h3,c,rfl,?_,aj (af _ _)⟩
  rw[h4]
  show _↔ln ls (s:Int).toNat<ln ls (t:Int).toNat
  rw[ts,tt,xy ls',xy lt']
theorem qhy{ls:List Int}(h:cl ls=true):md ls≠[]:=by
 obtain⟨h1,h2,h3⟩:=gg h
 intro e
 have hp:z4 ls=[]:=by
  have:=(mj ls).length_eq
  rw[e]at this
  exact List.eq_nil_of_length_eq_zero this.symm
 rcases h3 with h3 | h3
 ·rw[hp]at h3;simp at h3
 ·have:=qkv h2
  rw[e,qoz]at this
  omega
theorem qg6 {w:World} {A:Option Addr} {n c:Nat} {ls:List Int} (hr:Row w A (dy ls)) (hn:n=ls.length) (hb:n<=2^20) :
    Calls P 157 #[.slice A n c] w fun ev w'=>∃(A':Option Addr)(n' c':Nat),ev=.returned (.slice A' n' c')/\eo w' w.heap.size 3 A' n' c' (dy (px ls))/\w.grownBy w' none:=by
  apply vc157;dsimp only[VC157,Wt,Br,Bb,Rd,Rc,Rs,Ix,rI_,rB_,rS_]
  try simp only[InK]
  have g1:=World.grownBy_alloc w (.cells #[.slice A n c] 33) none
  have h0:=heap_alloc_new w (.cells #[.slice A n c] 33)
  obtain⟨w1,hw1⟩:∃ w1,w1=w.alloc (.cells #[.slice A n c] 33):=⟨_,rfl⟩
  rw[← hw1]at g1 h0 ⊢
  have hc1:∀ w',w1.grownBy w' none->w'.cell? ⟨w.heap.size,0,none⟩=some (.slice A n c):=by
    intro w' hg
    have:=hg.block w.heap.size (Array.getElem?_eq_some_iff.1 h0).1 (by simp)
    rw[h0]at this
    exact aa this 0
  have hr1:=hr.kept_none g1
  refine⟨_,_,_,hc1 w1 (af _ _),?_⟩
  refine(zy hr1 hn hb).mono fun ev w2 hh=>?_
  obtain⟨rfl,g2⟩:=hh
  refine⟨_,rfl,fun hf=>?_,fun ht=>?_⟩
  · refine⟨none,0,0,rfl,?_,ab g1 g2⟩
    have:px ls=[]:=by unfold px;rw[hf];rfl
    rw[this];exact World.ownsRow_nil _ _ _ _
  have hR:cl ls=true:=by simpa using ht
  obtain⟨h256,hrng,_⟩:=gg hR
  refine⟨_,_,_,hc1 w2 g2,?_⟩
  refine⟨fun m Ao no co i w3=>∃ j:Nat,i=(j:Int)/\j<=ls.length/\m=ls.length-j/\eo w3 w2.heap.size 3 Ao no co (dy (nI ((List.range j).filter fun s=>decide (0<ln ls s))))/\w2.grownBy w3 none,
    ⟨_,0,rfl,by omega,rfl,World.ownsRow_nil _ _ _ _,af _ _⟩,?_⟩
  rintro m Ao no co i w3 ⟨j,rfl,hj,rfl,ho,hg3⟩
  have tj:(j:Int).toNat=j:=by omega
  rw[tj]
  have hlf:((List.range j).filter fun s=>decide (0<ln ls s)).length<=j:=by
    have:=List.length_filter_le (fun s=>decide (0<ln ls s)) (List.range j)
    simpa using this
  have hno:no=((List.range j).filter fun s=>decide (0<ln ls s)).length:=by rw[ho.cases.1];simp[dy]
  refine⟨fun hlt=>?_,fun hge=>?_⟩
  · have l1:j<ls.length:=by omega
    obtain⟨a,ha1,ha2⟩:=(hr1.kept_none (ab g2 hg3)) j (.int .i64 ls[j]) (by simp[dy,l1])
    have hlj:=xy l1
    refine⟨a,ha1,by omega,by omega,_,ha2,fun hp=>?_,fun hp=>⟨by omega,ls.length-(j+1),by omega,j+1,by omega,by omega,rfl,?_,hg3⟩⟩
    · obtain⟨A4,n4,c4,w4,e1,e2,e3⟩:=qkm (x:=(j:Int)) ho (by omega) hg3.size
      refine⟨A4,n4,c4,w4,e1,by omega,ls.length-(j+1),by omega,j+1,by omega,by omega,rfl,?_,ax hg3 e3 ho.block_ge⟩
      have:nI ((List.range (j+1)).filter fun s=>decide (0<ln ls s))=nI ((List.range j).filter fun s=>decide (0<ln ls s))++[(j:Int)]:=by
        rw[List.range_succ,List.filter_append]
        have:decide (0<ln ls j)=true:=by rw[hlj];simpa using hp
        simp[nI,List.filter_cons,this]
      rw[this];exact e2
    · have:(List.range (j+1)).filter (fun s=>decide (0<ln ls s))=(List.range j).filter fun s=>decide (0<ln ls s):=by
        rw[List.range_succ,List.filter_append]
        have:decide (0<ln ls j)=false:=by rw[hlj];simpa using hp
        simp[List.filter_cons,this]
      rw[this];exact ho
  · have hj':j=ls.length:=by omega
    subst hj'
    have ho':eo w3 w2.heap.size 3 Ao no co (dy (nI (z4 ls))):=ho
    have hne:=qhy hR
    have hpl:(md ls).length=(z4 ls).length:=(mj ls).length_eq
    have hol:0<(md ls).length:=List.length_pos_iff.2 hne
    have hno':no=(z4 ls).length:=hno
    obtain⟨_,h | ⟨g,rfl,hgb,hcm,hnc,hown⟩⟩:=ho'.cases
    · omega
    have hg13:=ab g2 hg3
    have hc3:=hc1 w3 hg13
    have hr3:=hr1.kept_none hg13
    have hlt2:=g2.size
    have hs01:=(Array.getElem?_eq_some_iff.1 h0).1
    have hAblk:∀ a,A=some a->a.block<w1.heap.size:=by
      intro a ha
      obtain ⟨b, e1, e2⟩ := hr1.blk (by intro e;have:ls=[]:=by simpa[dy]using e
                                        rw[this]at hol;simp[md,z4,cz]at hol)
      rw[ha]at e1;cases e1;exact e2
    have cmp:=qoj (g:=g) hc3 hr3 hn (by show w.heap.size≠g;omega) (fun a ha=>by have:=hAblk a ha;omega) (L:=z4 ls) (fun s hs=>(qc8.1 hs).1)
    refine(qpz ⟨w.heap.size,0,none⟩ hown cmp (by simp[nI];omega) (by omega)).mono fun ev w4 hh=>?_
    obtain⟨rfl,hown4,hg4⟩:=hh
    have hord:cz (fun x:Int=>ln ls x.toNat) (nI (z4 ls))=nI (md ls):=sm (fun s:Nat=>(s:Int)) (fun x:Int=>ln ls x.toNat) (ln ls) (z4 ls) (fun y _=>by simp)
    rw[hord]at hown4
    have hc4:w4.cell? ⟨w.heap.size,0,none⟩=some (.slice A n c):=hg4.cell hc3 (by simp;omega)
    have hr4:Row w4 A (dy ls):=hr3.kept hg4 (fun a ha=>by have:=hAblk a ha;simp;omega)
    refine⟨rfl,_,_,_,hc4,?_⟩
    obtain⟨w5,hr5,hown5,hg5⟩:=yr (P:=P) (w:=w4) tu (by omega) (m:=n) (by omega)
    refine⟨_,_,_,w5,hr5,?_⟩
    have hglt:g<w4.heap.size:=hown4.lt
    have hsz4:w1.heap.size<=w4.heap.size:=Nat.le_trans hg13.size hg4.size
    have rd:∀ w6,w5.grownBy w6 (some w4.heap.size)->w6.cell? ⟨w.heap.size,0,none⟩=some (.slice A n c)/\Row w6 A (dy ls)/\Row w6 (some ⟨g,0,none⟩) (dy (nI (md ls))):=by
      intro w6 hg6
      refine⟨hg6.cell (hg5.cell hc4 (by simp)) (by simp;omega),(hr4.kept_none hg5).kept hg6 (fun a ha=>by have:=hAblk a ha;simp;omega),(hown4.row.kept_none hg5).kept hg6 (fun a ha=>by cases ha;simp;omega)⟩
    refine⟨fun m nx la i w6=>∃ k:Nat,i=(k:Int)/\k<=(md ls).length/\m=(md ls).length-k/\nx=(eh ls ((md ls).take k)).1/\la=(eh ls ((md ls).take k)).2.1/\Own w6 w4.heap.size 3 n (dy (eh ls ((md ls).take k)).2.2)/\w5.grownBy w6 (some w4.heap.size),
      ⟨_,0,rfl,by omega,rfl,rfl,rfl,?_,af _ _⟩,?_⟩
    · simpa[eh,dy,hn]using hown5
    rintro m nx la i w6 ⟨k,rfl,hk,rfl,rfl,rfl,ho6,hg6⟩
    have tk:(k:Int).toNat=k:=by omega
    rw[tk]
    obtain⟨q1,q2,q3⟩:=rd w6 hg6
    refine⟨fun hlt=>?_,fun hge=>?_⟩
    · have lk:k<(md ls).length:=by omega
      obtain⟨b,hb1,hb2⟩:=q3 k (.int .i64 ((md ls)[k]:Int)) (by simp[dy,nI,lk])
      have hsplit:md ls=(md ls).take k++(md ls)[k] ::(md ls).drop (k+1):=by rw[List.getElem_cons_drop,List.take_append_drop]
      obtain⟨c1,c2,c3,c4,c5,c6,c7,c8,c9,c10,c11⟩:=qmy hR hsplit
      have htk:(md ls).take (k+1)=(md ls).take k++[(md ls)[k]]:=List.take_succ_eq_append_getElem lk
      generalize hs:(md ls)[k]=s at *
      obtain⟨a,ha1,ha2⟩:=q2 s (.int .i64 ls[s]) (by simp[dy,c7])
      have hls:ls[s]=ln ls s:=(xy c7).symm
      rw[hls]at ha2
      have ts:(s:Int).toNat=s:=by omega
      refine⟨b,hb1,by omega,by omega,(s:Int),hb2,?_⟩
      rw[ts]
      have mnx:min (ln ls s-(eh ls ((md ls).take k)).2.1).toNat 64=(ln ls s-(eh ls ((md ls).take k)).2.1).toNat:=by omega
      have hcell:=ho6.cell (j:=s) (u:=.int .i64 ((eh ls ((md ls).take k)).2.2[s]'(by omega))) (by simp[dy,c10,c7])
      refine⟨_,_,_,q1,a,ha1,by omega,by omega,_,ha2,by omega,?_⟩
      rw[mnx,c4]
      refine⟨⟨by omega,by omega⟩,_,_,_,q1,a,ha1,by omega,by omega,_,ha2,_,rfl,by omega,by omega,⟨_,hcell⟩,ho6.notFrozen (aq _ _),by omega,by omega,(md ls).length-(k+1),by omega,k+1,by omega,by omega,rfl,?_,?_,?_,ce hg6 (aq _ _) _⟩
      · rw[htk,c11]
      · rw[htk,c11]
      · rw[htk,c11]
        have hset:=ho6.set (j:=s) (by simp[dy,c10,c7]) (.int .i64 (cd ls s))
        simpa[dy,List.map_set]using hset
    · have hk':k=(md ls).length:=by omega
      subst hk'
      rw[List.take_length]at ho6
      have hcl:(eh ls (md ls)).2.2=px ls:=(fo hR).2.symm
      rw[hcl]at ho6
      have hbase:w.heap.size<=w4.heap.size:=Nat.le_trans g1.size hsz4
      have h5:=ho6.ownsRow hbase (by simp only[maxLen];omega)
      have:(dy (px ls)).length=n:=by simp[dy,j8 hR,hn]
      rw[this]at h5
      refine⟨_,_,_,rfl,h5,?_⟩
      have e1:=ax (ab g1 hg13) hg4 (by intro q hq;cases hq;have:=g1.size;omega)
      exact ax (ab e1 hg5) hg6 (by intro q hq;cases hq;exact hbase)
def qcg(p:Int×Int):Value:=.agg #[.int .i64 p.1,.int .i64 p.2]
def qqb(x:Int):Prop:=-9223372036854775808<=x/\x<=9223372036854775807
def qlt(p:Int×Int):Prop:=qqb p.1/\qqb p.2
theorem qd4{x:Int}(h:qqb x):(Lit.int .i64 x).wf=true:=by
 have h1:IntKind.i64.min=-9223372036854775808:=rfl
 have h2:IntKind.i64.max=9223372036854775807:=rfl
 obtain⟨a,b⟩:=h
 simp only[Lit.wf,Bool.and_eq_true,decide_eq_true_eq]
 omega
theorem keyArr:WideMaps.ArrKey P 228 3 2:=by
 constructor <;>first | kernel_rfl | decide
theorem keyT:qq9 P 228 qcg qlt where
 law:=Maps.Keyed.of_law (deep_law (m:=3) (by omega) (by kernel_rfl) (by kernel_rfl) (by kernel_rfl))
 key:=fun x hx=>⟨_,WideMaps.keyOf_pair keyArr (by kernel_rfl) ⟨P.types.size-1,by kernel_rfl⟩ (qd4 hx.1) (qd4 hx.2)⟩
 inj:=by
  rintro⟨a,b⟩ ⟨c,d⟩ h
  simp[qcg]at h
  simp[h]
def Sym(ls:List Int)(j:Nat)(p:Int×Int)(v:Int):Prop:=∃ s:Nat,s<j/\0<ln ls s/\p=(cd ls s,ln ls s)/\v=(s:Int)
def qdz(w:World)(top g:Nat)(ls:List Int):Prop:=∃ (A1:Option Addr) (n1 c1:Nat) (A2:Option Addr) (n2 c2 m:Nat) (L:List ((Int×Int)×Int)),
 w.heap[g]?=some (.cells #[.slice A1 n1 c1,.slice A2 n2 c2,.map (some m)] 226 (0,0))/\Row w A1 (dy ls)/\n1=ls.length/\Row w A2 (dy (px ls))/\n2=ls.length/\fd qcg qlt (Value.int .i64) w m L ∧
 (∀ p v,jv L p=some v↔Sym ls ls.length p v)/\g<top/\m<top/\(∀ a,A1=some a->a.block<top)/\(∀ a,A2=some a->a.block<top)
theorem qdz.kp{w w':World}{S:Nat->Prop}{top g:Nat}{ls:List Int}(h:qdz w top g ls)(hk:Kp w w' S)(hS:∀ k,k<top->¬ S k):qdz w' top g ls:=by
 obtain⟨A1,n1,c1,A2,n2,c2,m,L,h1,h2,h3,h4,h5,h6,h7,h8,h9,h10,h11⟩:=h
 exact⟨A1,n1,c1,A2,n2,c2,m,L,by rw[hk.block g (Array.getElem?_eq_some_iff.1 h1).1 (hS g h8)];exact h1,h2.kp hk (fun a ha _=>hS _ (h10 a ha)),h3,h4.kp hk (fun a ha _=>hS _ (h11 a ha)),h5,h6.kp hk (hS m h9),h7,h8,h9,h10,h11⟩
theorem qey{w:World}{base:Nat}{e:TypeId}{A:Option Addr}{n c:Nat}{xs:List Value}(h:eo w base e A n c xs):∀ a,A=some a->a.block<w.heap.size:=by
 intro a ha
 rcases h.cases.2 with⟨e,_⟩ | ⟨g,e,_,_,_,h⟩
 ·rw[e]at ha;cases ha
 ·rw[e]at ha;cases ha;exact h.lt
theorem qe0 {w:World} {A:Option Addr} {n c:Nat} {ls:List Int} (hr:Row w A (dy ls)) (hn:n=ls.length) (hb:n<=2^20) :
    Calls P 112 #[.slice A n c] w fun ev w'=>w.grownBy w' none/\((cl ls=false/\ev=.returned (.tuple #[.pointer none,.bool false])) ∨
      (cl ls=true/\∃ g,ev=.returned (.tuple #[.pointer (some ⟨g,0,none⟩),.bool true])/\qdz w' w'.heap.size g ls)):=by
  apply vc112;dsimp only[VC112,Wt,Br,Bb,Rd,Rc,Rs,Ix,rI_,rB_,rS_]
  refine(zy hr hn hb).mono fun ev w1 hh=>?_
  obtain⟨rfl,g1⟩:=hh
  refine⟨_,rfl,fun hf=>⟨g1,.inl ⟨hf,rfl⟩⟩,fun ht=>?_⟩
  have hR:cl ls=true:=by simpa using ht
  obtain⟨h256,hrng,_⟩:=gg hR
  refine(qaw (hr.kept_none g1) hn (by omega)).mono fun ev w2 hh=>?_
  obtain⟨A1,n1,c1,rfl,o1,g2⟩:=hh
  refine⟨_,_,_,rfl,?_⟩
  have g12:=ab g1 g2
  refine(qg6 (hr.kept_none g12) hn hb).mono fun ev w3 hh=>?_
  obtain⟨A2,n2,c2,rfl,o2,g3⟩:=hh
  refine⟨_,_,_,rfl,?_⟩
  have g13:=ab g12 g3
  have hn1:n1=ls.length:=by rw[o1.cases.1];simp[dy]
  have hn2:n2=ls.length:=by rw[o2.cases.1];simp[dy,j8 hR]
  have hm:=World.grownBy_alloc w3 (.map #[] 0) none
  have hmap:fd qcg qlt (Value.int .i64) (w3.alloc (.map #[] 0)) w3.heap.size ([]:List ((Int×Int)×Int)):=fd.made w3
  obtain⟨w4,hw4⟩:∃ w4,w4=w3.alloc (.map #[] 0):=⟨_,rfl⟩
  rw[← hw4]at hm hmap ⊢
  have hs4:w4.heap.size=w3.heap.size+1:=by rw[hw4];simp
  have hg5:=World.grownBy_alloc w4 (.cells #[.slice A1 n1 c1,.slice A2 n2 c2,.map (some w3.heap.size)] 226) none
  have hb5:=heap_alloc_new w4 (.cells #[.slice A1 n1 c1,.slice A2 n2 c2,.map (some w3.heap.size)] 226)
  have hmap5:=hmap.kept hg5
  obtain⟨w5,hw5⟩:∃ w5,w5=w4.alloc (.cells #[.slice A1 n1 c1,.slice A2 n2 c2,.map (some w3.heap.size)] 226):=⟨_,rfl⟩
  rw[← hw5]at hg5 hb5 hmap5 ⊢
  have hs5:w5.heap.size=w4.heap.size+1:=by rw[hw5];simp
  have g35:=ab hm hg5
  have hr5:=(hr.kept_none g13).kept_none g35
  have r1:=(o1.row.kept_none g3).kept_none g35
  have r2:=o2.row.kept_none g35
  have b1:∀ a,A1=some a->a.block<w3.heap.size:=fun a ha=>Nat.lt_of_lt_of_le (qey o1 a ha) g3.size
  have b2:∀ a,A2=some a->a.block<w3.heap.size:=fun a ha=>qey o2 a ha
  have hol:0<(md ls).length:=List.length_pos_iff.2 (qhy hR)
  have bA : ∀ a, A = some a → a.block < w3.heap.size :=by
    intro a ha
    obtain ⟨b, e1, e2⟩ := (hr.kept_none g13).blk (by intro e;have:ls=[]:=by simpa[dy]using e
                                                     rw[this]at hol;simp[md,z4,cz]at hol)
    rw[ha]at e1;cases e1;exact e2
  simp only[InK]
  refine⟨fun q i w6=>∃ (j:Nat) (L:List ((Int×Int)×Int)),i=(j:Int)/\j<=ls.length/\q=ls.length-j/\fd qcg qlt (Value.int .i64) w6 w3.heap.size L/\(∀ p v,jv L p=some v↔Sym ls j p v)/\w5.grownBy w6 (some w3.heap.size),
    ⟨_,0,[],rfl,by omega,rfl,hmap5,by intro p v;simp[jv,Sym],af _ _⟩,?_⟩
  rintro q i w6 ⟨j,L,rfl,hj,rfl,hL,hsym,hg6⟩
  have tj:(j:Int).toNat=j:=by omega
  rw[tj]
  have hb6:w6.heap[w4.heap.size]?=some (.cells #[.slice A1 n1 c1,.slice A2 n2 c2,.map (some w3.heap.size)] 226 (0,0)):=by
    rw[hg6.block w4.heap.size (Array.getElem?_eq_some_iff.1 hb5).1 (by simp;omega)];exact hb5
  refine⟨fun hlt=>?_,fun hge=>?_⟩
  · have l1:j<ls.length:=by omega
    obtain⟨a,ha1,ha2⟩:=(hr5.kept hg6 (fun a ha=>by have:=bA a ha;simp;omega)) j (.int .i64 ls[j]) (by simp[dy,l1])
    have hlj:ls[j]=ln ls j:=(xy l1).symm
    rw[hlj]at ha2
    refine⟨a,ha1,by omega,by omega,_,ha2,fun hp=>?_,fun hp=>⟨by omega,ls.length-(j+1),by omega,j+1,L,by omega,by omega,rfl,hL,?_,hg6⟩⟩
    · have hd6:w6.drew.heap[w4.heap.size]?=some (.cells #[.slice A1 n1 c1,.slice A2 n2 c2,.map (some w3.heap.size)] 226 (0,0)):=hb6
      have hcl:=j8 hR
      have r26:Row w6.drew A2 (dy (px ls)):=r2.kept (aj hg6) (fun a ha=>by have:=b2 a ha;simp;omega)
      obtain⟨b,hb1,hb2⟩:=r26 j (.int .i64 (cd ls j)) (by simp[dy,cd,hcl,l1,List.getD_eq_getElem?_getD])
      have hcb:=qol hR ⟨l1,by omega⟩
      have hc0:=vl hR j
      have hrj:=hrng j
      have hp15:(2:Int)^(ln ls j).toNat<=2^15:=by
        have e1:((2^(ln ls j).toNat:Nat):Int)=2^(ln ls j).toNat:=by simp
        have:=Nat.pow_le_pow_right (n:=2) (by omega) (show(ln ls j).toNat<=15 by omega)
        omega
      have hLd:fd qcg qlt (Value.int .i64) w6.drew w3.heap.size L:=hL
      obtain⟨w7,e1,e2,e3⟩:=hLd.update (mt:=224) (et:=3) keyT (by kernel_rfl) (k:=(cd ls j,ln ls j)) ⟨⟨by show _<=cd ls j;omega,by show cd ls j<=_;omega⟩,⟨by show _<=ln ls j;omega,by show ln ls j<=_;omega⟩⟩ (j:Int)
      refine⟨_,rfl,_,by rw[au];exact aa hd6 2,_,rfl,_,_,_,by rw[au];exact aa hd6 1,b,hb1,by omega,by omega,_,hb2,w7,e1,by omega,ls.length-(j+1),by omega,j+1,xv L (cd ls j,ln ls j) (j:Int),by omega,by omega,rfl,e2,?_,ab (aj hg6) e3⟩
      intro p v
      rw[qdo]
      by_cases e:(cd ls j,ln ls j)=p
      · rw[if_pos e]
        constructor
        · intro h;cases h
          exact⟨j,by omega,by omega,e.symm,rfl⟩
        · rintro⟨s,s1,s2,s3,rfl⟩
          rw[s3]at e
          simp only[Prod.mk.injEq]at e
          have:=qpa hR ⟨l1,by omega⟩ ⟨show s<ls.length by omega,s2⟩ e.2 e.1
          rw[this]
      · rw[if_neg e,hsym]
        constructor
        · rintro⟨s,s1,r⟩;exact⟨s,by omega,r⟩
        · rintro⟨s,s1,s2,s3,s4⟩
          refine⟨s,?_,s2,s3,s4⟩
          by_cases h:s=j
          · subst h;exact absurd s3.symm e
          · omega
    · intro p v
      rw[hsym]
      constructor
      · rintro⟨s,s1,r⟩;exact⟨s,by omega,r⟩
      · rintro⟨s,s1,s2,s3,s4⟩
        refine⟨s,?_,s2,s3,s4⟩
        by_cases h:s=j
        · subst h;omega
        · omega
  · have hj':j=ls.length:=by omega
    subst hj'
    refine⟨ax (ab g13 g35) hg6 (by intro k hk;cases hk;exact g13.size),.inr ⟨hR,w4.heap.size,rfl,A1,n1,c1,A2,n2,c2,w3.heap.size,L,hb6,?_,hn1,?_,hn2,hL,hsym,?_,hL.lt,?_,?_⟩⟩
    · exact r1.kept hg6 (fun a ha=>by have:=b1 a ha;simp;omega)
    · exact r2.kept hg6 (fun a ha=>by have:=b2 a ha;simp;omega)
    · exact(Array.getElem?_eq_some_iff.1 hb6).1
    · intro a ha;have:=b1 a ha;have:=hg6.size;omega
    · intro a ha;have:=b2 a ha;have:=hg6.size;omega
theorem qke{ls:List Int}(h:cl ls=true){s:Nat}(hs:s<ls.length)(h0:ln ls s≠0):0<ln ls s/\ln ls s<=15/\0<=cd ls s/\cd ls s<=32767:=by
 obtain⟨_,hrng,_⟩:=gg h
 have hb:=hrng s
 have hc:=qol h ⟨hs,by omega⟩
 have hp15:(2:Int)^(ln ls s).toNat<=2^15:=by
  have e1:((2^(ln ls s).toNat:Nat):Int)=2^(ln ls s).toNat:=by simp
  have:=Nat.pow_le_pow_right (n:=2) (by omega) (show(ln ls s).toNat<=15 by omega)
  omega
 exact⟨by omega,hb.2,vl h s,by omega⟩
theorem qky{ls:List Int}{s:Int}(h:lq ls s=false)(bits:List Bool):bits++qd ls s=bits:=by simp[qd,h]
theorem qer{w:World}{top base g gw:Nat}{ls:List Int}{bits:List Bool}{s:Int}(hT:qdz w top g ls)(hR:cl ls=true)(hW:Wr w base gw bits)(hl:bits.length<=2^30)(hbase:base<=w.heap.size):
    Calls P 113 #[.pointer (some ⟨g,0,none⟩),.pointer (some ⟨gw,0,none⟩),.int .i64 s] w fun ev w'=>ev=.returned (.bool (lq ls s))/\Wr w' base gw (bits++qd ls s)/\Kp w w' (TyS w base [214,5]):=by
  obtain⟨A1,n1,c1,A2,n2,c2,m,L,hb,r1,hn1,r2,hn2,_⟩:=hT
  apply vc113;dsimp only[VC113,Wt,Br,Bb,Rd,Rc,Rs,Ix,rI_,rB_,rS_]
  have c0:w.cell? ⟨g,0,none⟩=some (.slice A1 n1 c1):=aa hb 0
  have hbd:w.drew.heap[g]?=some (.cells #[.slice A1 n1 c1,.slice A2 n2 c2,.map (some m)] 226 (0,0)):=hb
  have no:lq ls s=false->Wr w base gw (bits++qd ls s)/\Kp w w (TyS w base [214,5]):=fun h=>by
    rw[qky h];exact⟨hW,Kp.refl _ _⟩
  refine⟨fun h=>(by cases h),fun _=>⟨fun h=>?_,fun h0=>⟨_,rfl,_,_,_,c0,fun h=>?_,fun h1=>⟨_,rfl,_,_,_,c0,?_⟩⟩⟩⟩
  · have:lq ls s=false:=by simp[lq];omega
    rw[this];exact⟨rfl,by simpa[this]using no this⟩
  · have:lq ls s=false:=by simp[lq];omega
    rw[this];exact⟨rfl,by simpa[this]using no this⟩
  · obtain⟨k,rfl⟩:∃ k:Nat,s=k:=⟨s.toNat,by omega⟩
    have tk:(k:Int).toNat=k:=by omega
    have lk:k<ls.length:=by omega
    obtain⟨a,ha1,ha2⟩:=r1 k (.int .i64 ls[k]) (by simp[dy,lk])
    rw[show ls[k]=ln ls k from(xy lk).symm]at ha2
    rw[tk]
    refine⟨a,ha1,by omega,by omega,_,ha2,fun hz=>?_,fun hz=>?_⟩
    · have:lq ls (k:Int)=false:=by simp[lq,hz]
      rw[this];exact⟨rfl,by simpa[this]using no this⟩
    · have hv:lq ls (k:Int)=true:=by simp[lq,lk,hz]
      obtain⟨b1,b2,b3,b4⟩:=qke hR lk hz
      have hcl:=j8 hR
      obtain⟨b,hb1,hb2⟩:=r2 k (.int .i64 (cd ls k)) (by simp[dy,cd,hcl,lk,List.getD_eq_getElem?_getD])
      refine⟨_,rfl,_,_,_,by rw[au];exact aa hbd 1,b,hb1,by omega,by omega,_,hb2,⟨by omega,by omega⟩,_,rfl,_,_,_,c0,a,ha1,by omega,by omega,_,ha2,?_⟩
      obtain⟨q,hq⟩:∃ q:Nat,ln ls k=(q:Int):=⟨(ln ls k).toNat,by omega⟩
      rw[hq]
      have hWd:Wr w.drew base gw bits:=hW.kept (aj (af w none))
      refine(uo hWd (v:=cd ls k) (n:=q) (by omega) (by omega) hl hbase).mono fun ev w2 hh=>?_
      obtain⟨rfl,h2,h3⟩:=hh
      refine⟨rfl,by rw[hv],?_,⟨h3.os,h3.tape,h3.output,h3.size,h3.block⟩⟩
      have:qd ls (k:Int)=dl (cd ls k) q:=by simp[qd,hv,hq]
      rw[this];exact h2
theorem or_i64{v b:Int}(h0:0<=v/\v<=100000)(hb:0<=b/\b<=1):bop .or .i64 (v*2^1) b=2*v+b:=by
 obtain⟨n,rfl⟩:∃ n:Nat,v=n:=⟨v.toNat,by omega⟩
 obtain⟨m,rfl⟩:∃ n:Nat,b=n:=⟨b.toNat,by omega⟩
 have em:(n:Int)*2^1=((n*2^1:Nat):Int):=by simp
 rw[em]
 have e1:(BitVec.ofInt 64 ((n*2^1:Nat):Int)).toNat=n*2^1:=cq (by omega)
 have e2:(BitVec.ofInt 64 (m:Int)).toNat=m:=cq (by omega)
 show IntKind.i64.wrap (((BitVec.ofInt 64 ((n*2^1:Nat):Int) ||| BitVec.ofInt 64 (m:Int)).toNat:Nat):Int)=_
 rw[BitVec.toNat_or,e1,e2,Nat.or_comm,qh5 (by omega)]
 have hz:InK .i64 (((m+n*2^1:Nat)):Int):=by
  show(-9223372036854775808:Int)<=_/\_<=(9223372036854775807:Int)
  omega
 rw[gi hz]
 omega
theorem qat{l:List Int}{at_:Nat}(h:at_+1<=8*l.length):(bg l).drop at_=jd l at_ ::(bg l).drop (at_+1):=by
 have hl:=dw l
 rw[List.drop_eq_getElem_cons (by omega)]
 congr 1
 simp[bg]
theorem zo{l:List Int}{at_:Nat}(h:at_+1<=8*l.length):uh (((bg l).drop at_).take 1)=b2i (jd l at_):=by
 rw[qat h];simp[uh]
def vz(ls:List Int)(l:List Int)(at_:Nat):Value×Nat:=match re ls 15 0 0 ((bg l).drop at_)with
 | some (s,k)=>(.tuple #[.int .i64 (s:Int),.bool true],at_+k)
 | none=>(.tuple #[.int .i64 0,.bool false],at_)
theorem qnk(w:World):Sem.run P (zeroValue 3) w=.ok (.int .i64 0) w:=by
 obtain⟨i,h1,h2,h3,h4,h5,h6⟩:=tu.ex
 simp[zeroValue,typeInfo,program,Sem.run,h2,h3]
theorem lay2{w:World}{g:Nat}{x y u v:Value}{t:TypeId}(h:w.heap[g]?=some (.cells #[x,y] t (0,0))):
    (∃ z,w.cell? ⟨g,0,none⟩=some z)/\w.frozen? ⟨g,0,none⟩=false/\(∃ z,(w.setCell ⟨g,0,none⟩ u).cell? ⟨g,1,none⟩=some z)/\(w.setCell ⟨g,0,none⟩ u).frozen? ⟨g,1,none⟩=false ∧
    ((w.setCell ⟨g,0,none⟩ u).setCell ⟨g,1,none⟩ v).heap[g]?=some (.cells #[u,v] t (0,0)):=by
  have h1:=ah h 0 u
  have h2:=ah h1 1 v
  exact⟨⟨x,aa h 0⟩,ae h 0,⟨y,aa h1 1⟩,ae h1 1,h2⟩
theorem qk8{ls:List Int}(hR:cl ls=true){L:List ((Int×Int)×Int)}(hsym:∀ p v,jv L p=some v↔Sym ls ls.length p v){n:Nat}(hn:0<n)(v:Int):jv L (v,(n:Int))=(ku ls n v).map fun s:Nat=>(s:Int):=by
 cases e:ku ls n v with
 | some s =>
  obtain⟨h1,h2,h3⟩:=(lx hR hn).1 e
  exact(hsym _ _).2 ⟨s,h1,by omega,by rw[h2,h3],rfl⟩
 | none =>
  cases e2:jv L (v,(n:Int))with
  | none=>rfl
  | some u =>
   obtain⟨s,h1,h2,h3,h4⟩:=(hsym _ _).1 e2
   simp only[Prod.mk.injEq]at h3
   have:=(lx hR hn).2 ⟨h1,h3.2.symm,h3.1.symm⟩
   rw[e]at this;cases this
theorem qcy {w:World} {top gt g:Nat} {A:Option Addr} {n c:Nat} {l:List Int} {at_:Nat} {ls:List Int} (hT:qdz w top gt ls) (htop:top<=g) (h:yg w g A n c l at_) (hl:l.length<=2^40) (hb:∀ x∈l,0<=x/\x<=255) (hR:cl ls=true) :
    Calls P 163 #[.pointer (some ⟨gt,0,none⟩),.pointer (some ⟨g,0,none⟩)] w fun ev w'=>ev=.returned (vz ls l at_).1/\yg w' g A n c l (vz ls l at_).2/\Kp w w' (fun k=>k=g):=by
  apply vc163;dsimp only[VC163,Wt,Br,Bb,Rd,Rc,Rs,Ix,rI_,rB_,rS_]
  try simp only[InK]
  have hglt:g<w.heap.size:=(Array.getElem?_eq_some_iff.1 h.blk).1
  have hn0:=heap_alloc_new w (.cells #[.slice none 0 0,.int .i64 0] 240)
  obtain⟨k1,k2,k3,k4,k5⟩:=lay2 (u:=.slice A n c) (v:=.int .i64 (at_:Int)) hn0
  refine⟨fun h=>(by simp at h),fun _=>⟨_,rfl,_,_,_,aa h.blk 0,_,by rw[au];exact aa h.blk 1,k1,k2,k3,k4,?_⟩⟩
  have hk0:Kp w (((w.alloc (.cells #[.slice none 0 0,.int .i64 0] 240)).setCell ⟨w.heap.size,0,none⟩ (.slice A n c)).setCell ⟨w.heap.size,1,none⟩ (.int .i64 (at_:Int))) (fun k=>k=g) :=
    (((Kp.refl w (fun k=>k=g)).alloc _).set (.inl (Nat.le_refl _)) _).set (.inl (Nat.le_refl _)) _
  obtain⟨w0,hw0⟩:∃ w0,w0=((w.alloc (.cells #[.slice none 0 0,.int .i64 0] 240)).setCell ⟨w.heap.size,0,none⟩ (.slice A n c)).setCell ⟨w.heap.size,1,none⟩ (.int .i64 (at_:Int)):=⟨_,rfl⟩
  rw[← hw0]at k5 hk0 ⊢
  have hr0:yg w0 g A n c l at_:=by
    have hke:Kp w w0 (fun _=>False):=by
      rw[hw0]
      exact(((Kp.refl w (fun _=>False)).alloc _).set (.inl (Nat.le_refl _)) _).set (.inl (Nat.le_refl _)) _
    exact h.kp hke (fun h=>h) (fun _ _=>.inr (fun h=>h))
  have hdrop:∀ {α:Prop},α->α:=fun h=>h
  -- what is kept of the copy and of the table
  have keep:∀ w1,Kp w0 w1 (fun k=>k=g)->w1.heap[w.heap.size]?=some (.cells #[.slice A n c,.int .i64 (at_:Int)] 240 (0,0)):=by
    intro w1 h1
    rw[h1.block w.heap.size (Array.getElem?_eq_some_iff.1 k5).1 (by omega)];exact k5
  have tab:∀ w1,Kp w w1 (fun k=>k=g)->qdz w1 top gt ls:=fun w1 h1=>hT.kp h1 (fun k hk e=>by omega)
  have back:∀(w2:World)(j:Nat),yg w2 g A n c l (at_+j)->Kp w0 w2 (fun k=>k=g)->re ls 15 0 0 ((bg l).drop at_)=none->∃(x49A:Option Addr)(x49n x49c:Nat),w2.cell? ⟨w.heap.size,0,none⟩=some (.slice x49A x49n x49c)/\(∃ x49:Int,w2.cell? ⟨w.heap.size,1,none⟩=some (.int .i64 x49)/\(∃ a50:Addr,(some ⟨g,0,none⟩:Option Addr)=some a50/\((∃ u:Value,w2.cell? a50=some u)/\w2.frozen? a50=false/\((∃ u:Value,(w2.setCell a50 (.slice x49A x49n x49c)).cell? (a50.add 1)=some u)/\(w2.setCell a50 (.slice x49A x49n x49c)).frozen? (a50.add 1)=false ∧
      (Ending.returned (.tuple #[.int .i64 0,.bool false])=.returned (vz ls l at_).1/\yg ((w2.setCell a50 (.slice x49A x49n x49c)).setCell (a50.add 1) (.int .i64 x49)) g A n c l (vz ls l at_).2/\Kp w ((w2.setCell a50 (.slice x49A x49n x49c)).setCell (a50.add 1) (.int .i64 x49)) (fun k=>k=g)))))):=by
    intro w2 j h2 hk ht
    have hcp:=keep w2 hk
    obtain⟨q1,q2,q3,q4,q5⟩:=lay2 (u:=.slice A n c) (v:=.int .i64 (at_:Int)) h2.blk
    refine⟨_,_,_,aa hcp 0,_,aa hcp 1,_,rfl,q1,q2,?_⟩
    rw[au]
    refine⟨q3,q4,?_,?_,((hk0.trans hk).set (.inr rfl) _).set (.inr rfl) _⟩
    · simp[vz,ht]
    · refine⟨by simpa[vz,ht]using q5,?_,h2.len,by simp only[vz,ht];exact h.le,h2.ne⟩
      exact h2.row.kpE (S:=fun q=>q=g) (((Kp.refl w2 (fun q=>q=g)).set (.inr rfl) _).set (.inr rfl) _) (fun a ha=>(h2.ne a ha).imp (fun e=>by rw[e];rfl) id)
  refine⟨fun q v n' w1=>∃ j:Nat,n'=(j:Int)/\j<=15/\q=15-j/\0<=v/\v<2^j/\at_+j<=8*l.length/\re ls 15 0 0 ((bg l).drop at_)=re ls (15-j) j v ((bg l).drop (at_+j))/\yg w1 g A n c l (at_+j)/\Kp w0 w1 (fun k=>k=g),
    ⟨_,0,rfl,by omega,rfl,by omega,by simp,h.le,rfl,hr0,Kp.refl _ _⟩,?_⟩
  rintro q v n' w1 ⟨j,rfl,hj,rfl,hv0,hv1,hle,htk,hr1,hk1⟩
  have hp15:(2:Int)^j<=2^15:=by
    have e1:((2^j:Nat):Int)=2^j:=by simp
    have:=Nat.pow_le_pow_right (n:=2) (by omega) hj
    omega
  refine⟨fun hlt=>?_,fun hge=>?_⟩
  · obtain⟨r,hr⟩:∃ r,15-j=r+1:=⟨15-j-1,by omega⟩
    rw[hr]at htk
    refine(qo (k:=1) hr1 hl hb (by omega)).mono fun ev w2 hh=>?_
    obtain⟨k2,hh | hh⟩:=hh
    · obtain⟨hfit,rfl,hr2⟩:=hh
      refine⟨_,_,rfl,fun h=>(by cases h),fun _=>?_⟩
      rw[zo hfit]
      have hb01:=jn (jd l (at_+j))
      rw[or_i64 ⟨hv0,by omega⟩ hb01]
      have hk12:=hk1.trans k2
      rw[qat hfit]at htk
      have hunf:re ls (r+1) j v (jd l (at_+j) ::(bg l).drop (at_+j+1))=match ku ls (j+1) (2*v+b2i (jd l (at_+j)))with
        | some s=>some (s,j+1)
        | none=>re ls r (j+1) (2*v+b2i (jd l (at_+j))) ((bg l).drop (at_+j+1)):=rfl
      rw[hunf]at htk
      obtain⟨A1,n1,c1,A2,n2,c2,m,L,hbk,_,_,_,_,hL,hsym,_⟩:=tab w2 (hk0.trans hk12)
      have hlk:=hL.look (mt:=224) (et:=3) keyT (by kernel_rfl) (qnk w2) (k:=(2*v+b2i (jd l (at_+j)),(j:Int)+1)) ⟨⟨by show _<=2*v+_;omega,by show 2*v+_<=_;omega⟩,⟨by show _<=(j:Int)+1;omega,by show(j:Int)+1<=_;omega⟩⟩ true
      have hgk:=qk8 hR hsym (n:=j+1) (by omega) (2*v+b2i (jd l (at_+j)))
      rw[show((j+1:Nat):Int)=(j:Int)+1 by omega]at hgk
      rw[hgk]at hlk
      refine⟨⟨by omega,by omega,by omega⟩,by omega,_,rfl,_,by rw[au];exact aa hbk 2,by omega,?_⟩
      cases hf:ku ls (j+1) (2*v+b2i (jd l (at_+j)))with
      | some t =>
        rw[hf]at hlk htk
        refine⟨(t:Int),true,hlk,fun _=>?_,fun h=>(by cases h)⟩
        have hTT:vz ls l at_=(.tuple #[.int .i64 (t:Int),.bool true],at_+(j+1)):=by simp[vz,htk]
        rw[hTT]
        exact⟨rfl,hr2,hk0.trans hk12⟩
      | none =>
        rw[hf]at hlk htk
        refine⟨0,false,hlk,fun h=>(by cases h),fun _=>?_⟩
        have hv2:2*v+b2i (jd l (at_+j))<2^(j+1):=by rw[pow_succ'];omega
        refine⟨by omega,15-(j+1),by omega,j+1,by omega,by omega,rfl,by omega,hv2,hfit,?_,hr2,hk12⟩
        rw[htk,show 15-(j+1)=r by omega];rfl
    · obtain⟨hno,rfl,hr2⟩:=hh
      refine⟨_,_,rfl,fun _=>?_,fun h=>absurd rfl h⟩
      refine back w2 j hr2 (hk1.trans k2) ?_
      rw[htk]
      have:(bg l).drop (at_+j)=[]:=List.drop_eq_nil_of_le (by rw[dw];omega)
      rw[this];rfl
  · have hj':j=15:=by omega
    subst hj'
    refine back w1 15 hr1 hk1 ?_
    rw[htk];rfl
end Go.Proofs.YtlieaecnllkefaaGreat
